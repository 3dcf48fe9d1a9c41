/- Part 12 of what the proof stands on: G25, G26, H16, G28, H17, KT, KL, KU, JL. -/
import Derived.Test.YtbioecfkifbkbaaDoorCab11
import Derived.Test.YtbioecfkifbkbaaDoorCab10
import Derived.Test.YtbioecfkifbkbaaDoorCab05
import Derived.ProofKit
import Derived.Deep.Slices
import Derived.Test.YtbioecfkifbkbaaDoorProg
import Derived.LaidSub
import Derived.Lib.LaidTab
import Derived.Lib.ItoaNum
import Derived.Test.YtbioecfkifbkbaaDoorCab06
import Derived.Test.YtbioecfkifbkbaaDoorRows
import Derived.LaidLaws
import Derived.LaidHandle
import Derived.JoinedOf
set_option linter.unusedSimpArgs false
set_option linter.unnecessarySimpa false
set_option linter.unusedVariables false
set_option linter.unusedSectionVars false
/- What follows: Follow. -/
-- TEXTS
-- KIT
namespace Go.Cab
open Classical
def fb418 : AC := (.seq (.reg [⟨(.some 4), .none, (.mov (.const .nilFunc)), [], .none⟩]) (.seq (.reg [⟨(.some 9), .none, (.mov (.tmp 0)), [], .none⟩, ⟨(.some 10), .none, (.mov (.tmp 0)), [], .none⟩, ⟨(.some 11), .none, (.nilc (.tmp 10)), [], .none⟩, ⟨(.some 12), .none, (.faddr 0 0 (.tmp 11)), [], .none⟩, ⟨(.some 13), .none, (.load .false 1 (.tmp 12)), [], .none⟩, ⟨(.some 14), .none, (.len .false (.tmp 13)), [], .none⟩, ⟨(.some 15), .none, (.mkslice 4 1 1 (.lit (.bool .false)) (.tmp 14) (.tmp 14)), [], .none⟩, ⟨(.some 16), .none, (.build (.st [1, 1] [(.lit (.pointer .none)), (.lit (.slice .none 0 0))]) [(0, (.tmp 9)), (1, (.tmp 15))]), [], .none⟩, ⟨(.some 17), .none, (.box 2 (.tmp 16)), [], .none⟩, ⟨(.some 5), .none, (.mov (.tmp 17)), [], .none⟩]) (.seq (.seq (.reg [⟨(.some 18), .none, (.mov (.tmp 1)), [], .none⟩, ⟨(.some 19), .none, (.len .false (.tmp 18)), [], .none⟩, ⟨(.some 20), .none, (.mov (.const (jn 0))), [], .none⟩]) (.block 0 (.loop (.seq (.reg [⟨(.some 21), .none, (.bin .lss (.tmp 20) (.tmp 19)), [], .none⟩]) (.seq (.cond (.tmp 21) .skip (.exit 0)) (.seq (.block 1 (.seq (.reg [⟨(.some 22), .none, (.iaddrS 32 (.tmp 18) (.tmp 20)), [], .none⟩, ⟨(.some 23), .none, (.load .true 32 (.tmp 22)), [], .none⟩, ⟨(.some 7), .none, (.alloc 32 (.arr 1 (List.replicate 32 (.lit (bn 0))))), [], .none⟩, ⟨.none, .none, (.store 32 (.tmp 7) (.tmp 23)), [], .none⟩]) (.reg [⟨(.some 24), .none, (.mov (.tmp 5)), [], .none⟩, ⟨(.some 25), .none, (.load .true 32 (.tmp 7)), [], .none⟩, ⟨(.some 26), .none, (.icall 20 (.tmp 24) [(.tmp 25)]), [], .none⟩]))) (.reg [⟨(.some 27), .none, (.bin .add (.tmp 20) (.const (jn 1))), [], .none⟩, ⟨(.some 20), .none, (.mov (.tmp 27)), [], .none⟩]))))))) (.seq (.block 2 (.loop (.seq (.seq (.reg [⟨(.some 28), .none, (.mov (.tmp 5)), [], .none⟩, ⟨(.some 29), .none, (.icall 21 (.tmp 28) []), [], .none⟩]) (.cond (.tmp 29) .skip (.exit 2))) (.block 3 .skip)))) (.seq (.reg [⟨(.some 30), .none, (.mov (.tmp 0)), [], .none⟩, ⟨(.some 31), .none, (.nilc (.tmp 30)), [], .none⟩, ⟨(.some 32), .none, (.faddr 0 0 (.tmp 31)), [], .none⟩, ⟨(.some 33), .none, (.load .false 1 (.tmp 32)), [50], .none⟩, ⟨(.some 34), .none, (.mov (.tmp 0)), [], .none⟩, ⟨(.some 35), .none, (.nilc (.tmp 34)), [], .none⟩, ⟨(.some 36), .none, (.faddr 0 0 (.tmp 35)), [], .none⟩, ⟨(.some 37), .none, (.load .false 1 (.tmp 36)), [50], .none⟩, ⟨(.some 38), .none, (.len .false (.tmp 37)), [50], .none⟩, ⟨(.some 39), .none, (.mov (.tmp 0)), [], .none⟩, ⟨(.some 40), .none, (.nilc (.tmp 39)), [], .none⟩, ⟨(.some 41), .none, (.faddr 0 0 (.tmp 40)), [], .none⟩, ⟨(.some 42), .none, (.load .false 1 (.tmp 41)), [50], .none⟩, ⟨(.some 43), .none, (.len .false (.tmp 42)), [50], .none⟩, ⟨(.some 44), .none, (.rdp (.cap3 3) [(.tmp 33), (.tmp 38), (.tmp 43)]), [], .none⟩, ⟨(.some 45), .none, (.mov (.tmp 0)), [], .none⟩, ⟨(.some 46), .none, (.nilc (.tmp 45)), [], .none⟩, ⟨(.some 47), .none, (.faddr 1 1 (.tmp 46)), [], .none⟩, ⟨(.some 48), .none, (.load .false 1 (.tmp 47)), [50], .none⟩, ⟨(.some 49), .none, (.build (.st [1, 1] [(.lit (.slice .none 0 0)), (.lit (.map .none))]) [(0, (.tmp 44)), (1, (.tmp 48))]), [], .none⟩, ⟨(.some 50), .none, (.box 2 (.tmp 49)), [], .none⟩, ⟨(.some 8), .none, (.mov (.tmp 50)), [], .none⟩]) (.seq (.reg [⟨(.some 51), .none, (.mov (.tmp 5)), [], .none⟩, ⟨(.some 52), .none, (.mov (.tmp 8)), [], .none⟩, ⟨(.some 53), .none, (.nilc (.tmp 51)), [], .none⟩, ⟨(.some 54), .none, (.faddr 0 0 (.tmp 53)), [], .none⟩, ⟨.none, .none, (.store 1 (.tmp 54) (.tmp 52)), [], .none⟩]) (.seq (.reg [⟨(.some 55), .none, (.mov (.tmp 5)), [], .none⟩, ⟨(.some 56), .none, (.rdp (.mkfn (.func 22) 1) [(.tmp 55)]), [], .none⟩, ⟨(.some 4), .none, (.mov (.tmp 56)), [], .none⟩]) .ret)))))))
def fc418 : FC := ⟨2, 57, [(.tmp 4)], fb418⟩
theorem fc418_eq : compF Go.Proofs.Tryd.prog 13 = some fc418 := by kernel_rfl

/-- A row's value, in the caller's world. -/
theorem XCall.shape {P : Program} {f : FuncId} {vs : List AV} {H : List (Option Blk)} {K : AV → List (Option Blk) → Prop} {j e esz sl : Nat} {V : Value} {els : List AV} (hj : H[j]? = some (some (.row e V esz els sl)))
    (h : ((V = .slice none 0 0 ∧ els = []) ∨ ∃ g c, V = .slice (some ⟨g, 0, none⟩) els.length c ∧ els.length ≤ c) → XCall P f vs H K) : XCall P f vs H K := by
  intro w0 w regs Imm Vs hfr hth hheap hargs
  refine h ?_ w0 w regs Imm Vs hfr hth hheap hargs
  obtain ⟨⟨cs, hR, hown, _⟩, _⟩ := hheap.ok j _ (show (H[j]?).join = _ by rw [hj]; rfl)
  obtain ⟨hlen, hown2⟩ := hown
  rcases hown2 with ⟨h1, hn⟩ | ⟨g, cap, cur, rfl, h0, hg, hcapn, hcapm, hcs, htake⟩
  · exact .inl ⟨h1, List.eq_nil_of_length_eq_zero hn⟩
  · exact .inr ⟨g, cap, rfl, by omega⟩

/-! ### Plain: what a round turns -/
theorem learnV_cnt (known : List Bool) (k : List UInt8) : (learnV known k).2.count false + (if (learnV known k).1 then 1 else 0) = known.count false ∧ ((learnV known k).1 = false → (learnV known k).2 = known) := by
  unfold learnV
  split
  · rename_i h
    obtain ⟨_, h2, h3⟩ := h
    refine ⟨?_, by simp⟩
    rw [List.getD_eq_getElem?_getD, List.getElem?_eq_getElem h2] at h3
    simp only [Option.getD_some] at h3
    simp only [if_true]
    rw [List.count_set h2]
    have := List.count_pos_iff.2 (show false ∈ known by rw [← h3]; exact List.getElem_mem h2)
    simp [h3]
    omega
  · simp
/-- Nothing is forgotten, and what is new is told. -/
def MoreOk (known : List Bool) (more : Bool) (y : List Bool × Bool) : Prop := y.1.count false ≤ known.count false ∧ (y.2 = true → more = true ∨ y.1.count false < known.count false) ∧ (y.2 = false → more = false ∧ y.1 = known)
theorem MoreOk.refl (known : List Bool) (more : Bool) : MoreOk known more (known, more) := ⟨Nat.le_refl _, .inl, fun h => ⟨h, rfl⟩⟩
theorem MoreOk.trans {known : List Bool} {more : Bool} {y z : List Bool × Bool} (h : MoreOk known more y) (k : MoreOk y.1 y.2 z) : MoreOk known more z := by
  obtain ⟨h1, h2, h3⟩ := h
  obtain ⟨k1, k2, k3⟩ := k
  refine ⟨by omega, fun hz => ?_, fun hz => ?_⟩
  · rcases k2 hz with h | h
    · rcases h2 h with h | h
      · exact .inl h
      · exact .inr (by omega)
    · exact .inr (by omega)
  · obtain ⟨a, b⟩ := k3 hz
    obtain ⟨c, d⟩ := h3 a
    exact ⟨c, by rw [b, d]⟩
theorem MoreOk.learn (known : List Bool) (more : Bool) (k : List UInt8) : MoreOk known more ((learnV known k).2, (learnV known k).1 || more) := by
  obtain ⟨h1, h2⟩ := learnV_cnt known k
  generalize learnV known k = l at *
  obtain ⟨b, k2⟩ := l
  simp only at h1 h2 ⊢
  cases b with
  | true => exact ⟨by simp at h1; simp only; omega, fun _ => .inr (by simp at h1; simp only; omega), by simp⟩
  | false =>
    have := h2 rfl
    subst this
    simp only [Bool.false_or]
    exact MoreOk.refl _ _
theorem MoreOk.learnL : ∀ (ks : List (List UInt8)) (known : List Bool) (more : Bool), MoreOk known more (learnL known more ks)
  | [], known, more => MoreOk.refl _ _
  | k :: ks, known, more => (MoreOk.learn known more k).trans (MoreOk.learnL ks _ _)
theorem MoreOk.step1 (ts : List Term) (i : Nat) (known : List Bool) (more : Bool) (x : Term) : MoreOk known more (step1 ts i known more x) := by
  unfold Cab.step1
  split
  · rename_i h
    have hi : i < known.length := by
      by_cases h' : i < known.length
      · exact h'
      · have := h.1; rw [List.getD_eq_getElem?_getD, List.getElem?_eq_none (by omega)] at this; cases this
    have h3 := h.1
    rw [List.getD_eq_getElem?_getD, List.getElem?_eq_getElem hi] at h3
    simp only [Option.getD_some] at h3
    have hc := List.count_pos_iff.2 (show false ∈ known by rw [← h3]; exact List.getElem_mem hi)
    have : (known.set i true).count false < known.count false := by
      rw [List.count_set hi]; simp [h3]; omega
    exact ⟨by simp only; omega, fun _ => .inr this, by simp⟩
  · exact MoreOk.refl _ _
theorem MoreOk.step2 (i : Nat) (known : List Bool) (more : Bool) (x : Term) : MoreOk known more (step2 i known more x) := by
  unfold Cab.step2
  split
  · exact MoreOk.learnL _ _ _
  · exact MoreOk.refl _ _
theorem MoreOk.roundG (ts : List Term) : ∀ (xs : List Term) (i : Nat) (known : List Bool) (more : Bool), MoreOk known more (roundG ts xs i known more)
  | [], _, _, _ => MoreOk.refl _ _
  | x :: xs, i, known, more => ((MoreOk.step1 ts i known more x).trans (MoreOk.step2 i _ _ x)).trans (MoreOk.roundG ts xs _ _ _)

def learnS : List Bool → List (List UInt8) → List Bool
  | known, [] => known
  | known, k :: ks => learnS (learnV known k).2 ks
theorem learnS_len : ∀ (ks : List (List UInt8)) (known : List Bool), (learnS known ks).length = known.length
  | [], _ => rfl
  | k :: ks, known => by rw [learnS, learnS_len ks, learnV_len]
/-- Rounds, one behind the other. -/
inductive Rounds (ts : List Term) : List Bool → List Bool → Prop
  | refl (k) : Rounds ts k k
  | step (k k') : Rounds ts k k' → Rounds ts k (roundV ts k').1
/-- All that follows of what was seen. -/
structure FolOk (ts : List Term) (seen : List (List UInt8)) (K : List Bool) : Prop where
  of : Rounds ts (learnS (List.replicate ts.length false) seen) K
  end_ : roundV ts K = (K, false)
theorem Rounds.len {ts : List Term} {a b : List Bool} (h : Rounds ts a b) : b.length = a.length := by
  induction h with
  | refl => rfl
  | step k' _ ih => unfold roundV; rw [roundG_len, ih]
theorem FolOk.len {ts : List Term} {seen : List (List UInt8)} {K : List Bool} (h : FolOk ts seen K) : K.length = ts.length := by rw [h.of.len, learnS_len, List.length_replicate]

def cloH (b : Nat) (l : Nat × Nat) : AV := .fnv (.func 22) [.ptr b l 0 []] []
theorem tgt_cloH (b : Nat) (l : Nat × Nat) (x : AV) : tgtA Go.Proofs.Tryd.prog .val [cloH b l, x] = some (22, [.ptr b l 0 [], x]) := by kernel_rfl
theorem mkfn_cloH (b : Nat) (l : Nat × Nat) : rdA Go.Proofs.Tryd.prog (fun _ => none) (.mkfn (.func 22) 1) [.ptr b l 0 []] = some (cloH b l) := by kernel_rfl
def FolK (H : List (Option Blk)) (ts : List Term) (seen : List (List UInt8)) (r : AV) (H' : List (Option Blk)) : Prop :=
  ∃ K f Vk L', FolOk ts seen K ∧ r = cloH f.b f.l ∧ H' = H ++ L' ∧ ∀ G : List (Option Blk), G.length = H.length → FcOk (G ++ L') f Vk K
/-! ### The walk -/

set_option maxHeartbeats 64000000 in
theorem follow_sl {H : List (Option Blk)} {t : Tb} {V : Value} {ts : List Term} (hT : TbOk H t V ts) (hts : TsOk ts) {seen : List (List UInt8)} (hsl : seen.length < 100000) (h32 : ∀ k ∈ seen, k.length = 32) :
    XCall Go.Proofs.Tryd.prog 13 [.ptr t.b t.l 0 [], .sl 32 (klA seen)] H (FolK H ts seen) := by
  refine XCall.shape (j := t.j) (e := 82) (V := V) (esz := 3) (els := ts.map termA) (sl := 0) hT.hj fun hV => ?_
  have h418 := fc418_eq
  refine XCall.le ?_
  have lb := hT.lb
  have lj := hT.lj
  have lm := hT.lm
  have hlen := hts.len
  have htb := hT.hb
  have htj := hT.hj
  unfold tbk at htb
  unfold trk at htj
  refine XCall.of h418 rfl ?_; show AC.wp _ fb418 ⟨H.length, [.ptr t.b t.l 0 [], .sl 32 (klA seen)] ++ List.replicate (57 - 2) .any, H ++ List.replicate 57 none⟩ (fun x s => match x with | .exit _ => False | _ => ∃ s1, Le s s1 ∧ FinX [(.tmp 4)] s1 _); unfold fb418
  generalize hN : H.length = N at *
  have q1 : ∀ L k, (H ++ L)[N + k]? = L[k]? := fun L k => cat1 N H L k hN
  have q2 : ∀ L k x, (H ++ L).set (N + k) x = H ++ L.set k x := fun L k x => cat2 N H L k x hN
  have q6 : ∀ L, (H ++ L)[t.b]? = some (some (.box t.l 2 (.st [1, 1] [.own t.j V, .own t.m (.map (some t.r))]))) := fun L => by rw [cat4 N H L _ hN lb]; exact htb
  have q7 : ∀ L, (H ++ L)[t.j]? = some (some (.row 82 V 3 (ts.map termA) 0)) := fun L => by rw [cat4 N H L _ hN lj]; exact htj
  have hml : (ts.map termA).length = ts.length := List.length_map _
  refine wp_sr (by simp [push_cast]; exact rfl) (wp_sg ?_)
  refine areg_run 6 (by simp [push_cast, q6, q7, hml]; exact rfl) ?_
  refine areg_mk (n := ts.length) rfl rfl (by simp [maxLen]; omega) (by omega) fun Vk => ?_
  refine areg_run 1 (by simp [push_cast, q2]; exact rfl) ?_
  refine areg_bx rfl rfl fun l17 => areg_end (by simp [push_cast, q2]; exact rfl) ?_
  -- the state, with so much known
  obtain ⟨f, hf⟩ : ∃ f : Fc, f = ⟨N + 17, l17, N + 15, t.b, t.l⟩ := ⟨_, rfl⟩
  have hFt : ∀ (kw : List Bool) (L : List (Option Blk)), kw.length = ts.length → L[15]? = some (some (frk Vk kw)) → L[17]? = some (some (.box l17 2 (.st [1, 1] [.ptr t.b t.l 0 [], .own (N + 15) Vk]))) → FtOk (H ++ L) f t V ts Vk kw := fun kw L hk e15 e17 => by
    subst hf
    exact ⟨⟨by rw [q1]; exact e17, by rw [q1]; exact e15, by rw [hk]; exact (hT.app L).tabX, by omega⟩, hT.app L, rfl, rfl, hk, by simp only; omega, by simp only; omega, by simp only; omega, by simp⟩
  have hko : ∀ (kw : List Bool) (L : List (Option Blk)), kOf (H ++ L) f Vk kw = H ++ L.set 15 (some (frk Vk kw)) := fun kw L => by subst hf; exact q2 L 15 _
  have frk1 : ∀ kw, frk Vk kw = .row 4 Vk 1 (kwA kw) 0 := fun _ => rfl
  refine wp_seq' (wp_seq' (wp_r (by simp [push_cast, klA_len]; exact rfl) ?_))
  refine wp_block' (wp_loop_m (fun (x : Nat × List Bool) => (⟨N, [.ptr t.b t.l 0 [], .sl 32 (klA seen), .any, .any, .lit .nilFunc, .ptr (N + 17) l17 0 []] ++ List.replicate 12 .any ++ [.sl 32 (klA seen), .lit (jn seen.length), .lit (jn x.1)] ++ List.replicate 36 .any, H ++ (List.replicate 15 none ++ [some (frk Vk x.2), none, some (.box l17 2 (.st [1, 1] [.ptr t.b t.l 0 [], .own (N + 15) Vk]))] ++ List.replicate 39 none)⟩ : AS))
    (fun x => seen.length - x.1) (fun x => learnS x.2 (seen.drop x.1) = learnS (List.replicate ts.length false) seen ∧ x.1 ≤ seen.length ∧ x.2.length = ts.length) (0, List.replicate ts.length false) (Le.mk rfl (by simp [leT]) ?_) ⟨rfl, by simp, by simp⟩ ?_)
  · exact leH_app (leH_refl _) (by simp [leH, frk1, kwA])
  rintro ⟨i, kw⟩ ⟨hI, hi, hkl⟩
  simp only at hI hi hkl ⊢
  by_cases hlt : i < seen.length
  · obtain ⟨u, hu⟩ : ∃ u, seen[i]? = some u := ⟨_, List.getElem?_eq_getElem hlt⟩
    have hdrop : seen.drop i = u :: seen.drop (i + 1) := by
      rw [List.drop_eq_getElem_cons hlt]
      rw [List.getElem?_eq_getElem hlt] at hu
      rw [Option.some.inj hu]
    rw [hdrop, learnS] at hI
    have hu32 := h32 u (List.mem_of_getElem? hu)
    have j1 : (klA seen)[i]? = some (keyA u) := by rw [klA_get, hu]; rfl
    have j2 : ∀ h, (klA seen)[i]'h = keyA u := fun h => by rw [List.getElem?_eq_getElem h] at j1; exact Option.some.inj j1
    have j3 : i + 1 < 9223372036854775808 := by omega
    have cl := fun L e15 e17 => learn_call (hFt kw L hkl e15 e17).fc hu32
    have hl4 := learnV_len kw u
    generalize learnV kw u = lv at *
    obtain ⟨b5, k5⟩ := lv
    simp only at hI hl4 cl
    have hfb : f.b = N + 17 := by rw [hf]
    have hfl : f.l = l17 := by rw [hf]
    rw [hfb, hfl] at cl
    refine wp_sr (by simp [push_cast, hlt]; exact rfl) (wp_seq' (wp_cond_t (by simp [AS.ev]) (wp_skip' ?_)))
    refine wp_seq' (wp_block' (wp_sg ?_))
    refine areg_run 2 (by simp [push_cast, j1, j2, hlt, klA_len]; exact rfl) ?_
    refine areg_al' zk_eq.symm fun l7 => areg_end (by simp [push_cast, q1, q2, hu32]; exact rfl) ?_
    refine wp_rg ?_
    refine areg_run 2 (by simp [push_cast, q1, hu32]; exact rfl) ?_
    refine areg_xc rfl (cl _ rfl rfl) ⟨_, _, rfl, rfl⟩ ?_
    rintro _ _ ⟨rfl, rfl⟩
    rw [hko]
    refine areg_end (by simp [push_cast]; exact rfl) ?_
    refine wp_r (by simp [push_cast, j3]; exact rfl) ?_
    exact Exists.intro (i + 1, k5) ⟨⟨hI, by omega, by simp only; omega⟩, by simp only; omega, Le.mk rfl (by simp [leT]) (leH_app (leH_refl _) (by simp [leH]))⟩
  have hin : i = seen.length := by omega
  subst hin
  rw [List.drop_length, learnS] at hI
  refine wp_sr (by simp [push_cast]; exact rfl) (wp_seq' (wp_cond_f (by simp [AS.ev]) (wp_exit' (if_hit rfl ?_))))
  -- rounds
  refine wp_seqL (wp_block' (wp_loop_m (fun kw : List Bool => (⟨N, [.ptr t.b t.l 0 [], .sl 32 (klA seen), .any, .any, .lit .nilFunc, .ptr (N + 17) l17 0 []] ++ List.replicate 51 .any, H ++ (List.replicate 15 none ++ [some (frk Vk kw), none, some (.box l17 2 (.st [1, 1] [.ptr t.b t.l 0 [], .own (N + 15) Vk]))] ++ List.replicate 39 none)⟩ : AS))
    (fun kw => kw.count false) (fun kw => Rounds ts (learnS (List.replicate ts.length false) seen) kw) kw (Le.mk rfl (by simp [leT]) (leH_app (leH_refl _) (by simp [leH]))) (by rw [hI]; exact .refl _) ?_))
  clear hI hkl
  clear kw
  intro kw hR
  have hkl : kw.length = ts.length := by rw [hR.len, learnS_len, List.length_replicate]
  simp only
  have cr := fun L e15 e17 => round_call (hFt kw L hkl e15 e17) hts
  have hstep := Rounds.step _ _ hR
  have hmo : MoreOk kw false (roundV ts kw) := MoreOk.roundG ts ts 0 kw false
  have hrl : (roundV ts kw).1.length = kw.length := roundG_len ts ts 0 kw false
  generalize hrv : roundV ts kw = rv at *
  obtain ⟨k6, b6⟩ := rv
  obtain ⟨m1, m2, m3⟩ := hmo
  simp only at m1 m2 m3 cr hstep hrl
  have hfb : f.b = N + 17 := by rw [hf]
  have hfl : f.l = l17 := by rw [hf]
  rw [hfb, hfl] at cr
  refine wp_seq' (wp_seq' (wp_rg ?_))
  refine areg_run 1 (by simp [push_cast]; exact rfl) ?_
  refine areg_xc rfl (cr _ rfl rfl) ⟨_, _, rfl, rfl⟩ ?_
  rintro _ _ ⟨rfl, rfl⟩
  rw [hko]
  refine areg_end (by simp [push_cast]; exact rfl) ?_
  cases b6 with
  | true =>
    refine wp_cond_t (by simp [AS.ev]) (wp_skip' (wp_block' (wp_skip' ?_)))
    refine Exists.intro k6 ⟨hstep, ?_, Le.mk rfl (by simp [leT]) (leH_app (leH_refl _) (by simp [leH]))⟩
    rcases m2 rfl with h | h
    · cases h
    · exact h
  | false =>
    obtain ⟨_, hkk⟩ := m3 rfl
    subst hkk
    refine wp_cond_f (by simp [AS.ev]) (wp_exit' (if_hit rfl ?_))
    refine ⟨_, Le.refl _, ?_⟩
    have hfo : FolOk ts seen k6 := ⟨hR, hrv⟩
    have hfin : ∀ (x8 : AV) (l50 : Nat × Nat), LenX [] x8 ts.length → FolK H ts seen (cloH (N + 17) l17) (H ++ (List.replicate 15 none ++ [some (frk Vk k6), none, some (.box l17 2 (.st [1, 1] [.ptr (N + 50) l50 0 [], .own (N + 15) Vk]))] ++ List.replicate 32 none ++ [some (.box l50 2 (.st [1, 1] [x8, .own t.m (.map (some t.r))]))])) := fun x8 l50 h8 => by
      refine ⟨k6, ⟨N + 17, l17, N + 15, N + 50, l50⟩, Vk, _, hfo, rfl, rfl, fun G hG => ?_⟩
      have e := fun k => cat1 N G (List.replicate 15 none ++ [some (frk Vk k6), none, some (.box l17 2 (.st [1, 1] [.ptr (N + 50) l50 0 [], .own (N + 15) Vk]))] ++ List.replicate 32 none ++ [some (.box l50 2 (.st [1, 1] [x8, .own t.m (.map (some t.r))]))]) k (by omega)
      refine ⟨by rw [e]; rfl, by rw [e]; rfl, ⟨x8, .own t.m (.map (some t.r)), by rw [e]; rfl, ?_⟩, by omega⟩
      rw [hkl]
      rcases h8 with ⟨j, V, els, sl, _, h, _⟩ | h | h
      · simp at h
      · exact .inr (.inl h)
      · exact .inr (.inr h)
    have hfin2 : ∀ (x8 : AV) (l50 : Nat × Nat) (R : List (Option Blk)) (s : AS), LenX [] x8 ts.length → RVal s (.tmp 4) = some (cloH (N + 17) l17) → s.hp = H ++ (List.replicate 15 none ++ [some (frk Vk k6), none, some (.box l17 2 (.st [1, 1] [.ptr (N + 50) l50 0 [], .own (N + 15) Vk]))] ++ List.replicate 32 none ++ [some (.box l50 2 (.st [1, 1] [x8, .own t.m (.map (some t.r))]))]) ++ R → ∃ s1, Le s s1 ∧ FinX [RV.tmp 4] s1 fun r H' => ∃ r' A, RelLe r r' ∧ r' ≠ .any ∧ HpLe H' A ∧ FolK H ts seen r' A := fun x8 l50 R s h8 hr hR =>
      ⟨s, Le.refl _, finX1 hr (by simp [cloH]) ⟨_, _, RelLe.refl _, by simp [cloH], by rw [hR]; exact HpLe.trim _ _, hfin x8 l50 h8⟩⟩
    refine wp_sg ?_
    have n50 : ¬ t.b = N + 50 := by omega
    have n50j : ¬ t.j = N + 50 := by omega
    refine areg_run 14 (by simp [push_cast, q6, q7, hml, n50, n50j]; exact rfl) ?_
    rcases hV with ⟨rfl, hnil⟩ | ⟨g, cc, hVs, hcc⟩
    · have hz : ts.length = 0 := by rw [← hml, hnil]; rfl
      refine areg_rdp (us := [.own t.j (.slice none 0 0), .lit (jn ts.length), .lit (jn ts.length)]) (v := .lit (.slice none 0 0)) rfl (by rw [hz]; simp [rdA, rdB, jn]) ?_
      refine areg_run 5 (by simp [push_cast, q6, n50]; exact rfl) ?_
      refine areg_bx rfl rfl fun l50 => areg_end (by simp [push_cast, q2]; exact rfl) ?_
      refine wp_sr (by simp [push_cast, q1, q2]; exact rfl) ?_
      refine wp_sg ?_
      refine areg_run 1 (by simp [push_cast]; exact rfl) ?_
      refine areg_rdp (us := [.ptr (N + 17) l17 0 []]) rfl (mkfn_cloH _ _) ?_
      refine areg_end (by simp [push_cast]; exact rfl) (wp_ret' ?_)
      exact hfin2 (.lit (.slice none 0 0)) l50 (List.replicate 6 none) _ (.inr (.inr ⟨rfl, hz⟩)) (by simp [RVal, AS.ev, AS.coe, cloH]) (by simp)
    · rw [hml] at hVs hcc
      have hcap : rdA Go.Proofs.Tryd.prog (fun _ => none) (.cap3 3) [.own t.j V, .lit (jn ts.length), .lit (jn ts.length)] = some (.view 0 (g, 0) 0 [] 3 0 ts.length ts.length) := by
        subst hVs
        simp [rdA, rdB, jn, hcc]
      refine areg_rdp (us := [.own t.j V, .lit (jn ts.length), .lit (jn ts.length)]) (v := .view 0 (g, 0) 0 [] 3 0 ts.length ts.length) rfl hcap ?_
      refine areg_run 5 (by simp [push_cast, q6, n50]; exact rfl) ?_
      refine areg_bx rfl rfl fun l50 => areg_end (by simp [push_cast, q2]; exact rfl) ?_
      refine wp_sr (by simp [push_cast, q1, q2]; exact rfl) ?_
      refine wp_sg ?_
      refine areg_run 1 (by simp [push_cast]; exact rfl) ?_
      refine areg_rdp (us := [.ptr (N + 17) l17 0 []]) rfl (mkfn_cloH _ _) ?_
      refine areg_end (by simp [push_cast]; exact rfl) (wp_ret' ?_)
      exact hfin2 (.view 0 (g, 0) 0 [] 3 0 ts.length ts.length) l50 (List.replicate 6 none) _ (.inr (.inl ⟨_, _, _, _, _, _, rfl⟩)) (by simp [RVal, AS.ev, AS.coe, cloH]) (by simp)

set_option maxHeartbeats 64000000 in
theorem follow_own {H : List (Option Blk)} {t : Tb} {V : Value} {ts : List Term} (hT : TbOk H t V ts) (hts : TsOk ts) {seen : List (List UInt8)} (hsl : seen.length < 100000) (h32 : ∀ k ∈ seen, k.length = 32) {c sl : Nat} {Vc : Value} (hc : H[c]? = some (some (.row 29 Vc 32 (klA seen) sl))) :
    XCall Go.Proofs.Tryd.prog 13 [.ptr t.b t.l 0 [], .own c Vc] H (FolK H ts seen) := by
  refine XCall.shape (j := t.j) (e := 82) (V := V) (esz := 3) (els := ts.map termA) (sl := 0) hT.hj fun hV => ?_
  have h418 := fc418_eq
  refine XCall.le ?_
  have lb := hT.lb
  have lj := hT.lj
  have lm := hT.lm
  have hlen := hts.len
  have htb := hT.hb
  have htj := hT.hj
  unfold tbk at htb
  unfold trk at htj
  refine XCall.of h418 rfl ?_; show AC.wp _ fb418 ⟨H.length, [.ptr t.b t.l 0 [], .own c Vc] ++ List.replicate (57 - 2) .any, H ++ List.replicate 57 none⟩ (fun x s => match x with | .exit _ => False | _ => ∃ s1, Le s s1 ∧ FinX [(.tmp 4)] s1 _); unfold fb418
  generalize hN : H.length = N at *
  have lc := (List.getElem?_eq_some_iff.1 hc).1
  have qc : ∀ L, (H ++ L)[c]? = some (some (.row 29 Vc 32 (klA seen) sl)) := fun L => by rw [cat4 N H L _ hN (by omega)]; exact hc
  have q1 : ∀ L k, (H ++ L)[N + k]? = L[k]? := fun L k => cat1 N H L k hN
  have q2 : ∀ L k x, (H ++ L).set (N + k) x = H ++ L.set k x := fun L k x => cat2 N H L k x hN
  have q6 : ∀ L, (H ++ L)[t.b]? = some (some (.box t.l 2 (.st [1, 1] [.own t.j V, .own t.m (.map (some t.r))]))) := fun L => by rw [cat4 N H L _ hN lb]; exact htb
  have q7 : ∀ L, (H ++ L)[t.j]? = some (some (.row 82 V 3 (ts.map termA) 0)) := fun L => by rw [cat4 N H L _ hN lj]; exact htj
  have hml : (ts.map termA).length = ts.length := List.length_map _
  refine wp_sr (by simp [push_cast]; exact rfl) (wp_sg ?_)
  refine areg_run 6 (by simp [push_cast, q6, q7, hml]; exact rfl) ?_
  refine areg_mk (n := ts.length) rfl rfl (by simp [maxLen]; omega) (by omega) fun Vk => ?_
  refine areg_run 1 (by simp [push_cast, q2]; exact rfl) ?_
  refine areg_bx rfl rfl fun l17 => areg_end (by simp [push_cast, q2]; exact rfl) ?_
  -- the state, with so much known
  obtain ⟨f, hf⟩ : ∃ f : Fc, f = ⟨N + 17, l17, N + 15, t.b, t.l⟩ := ⟨_, rfl⟩
  have hFt : ∀ (kw : List Bool) (L : List (Option Blk)), kw.length = ts.length → L[15]? = some (some (frk Vk kw)) → L[17]? = some (some (.box l17 2 (.st [1, 1] [.ptr t.b t.l 0 [], .own (N + 15) Vk]))) → FtOk (H ++ L) f t V ts Vk kw := fun kw L hk e15 e17 => by
    subst hf
    exact ⟨⟨by rw [q1]; exact e17, by rw [q1]; exact e15, by rw [hk]; exact (hT.app L).tabX, by omega⟩, hT.app L, rfl, rfl, hk, by simp only; omega, by simp only; omega, by simp only; omega, by simp⟩
  have hko : ∀ (kw : List Bool) (L : List (Option Blk)), kOf (H ++ L) f Vk kw = H ++ L.set 15 (some (frk Vk kw)) := fun kw L => by subst hf; exact q2 L 15 _
  have frk1 : ∀ kw, frk Vk kw = .row 4 Vk 1 (kwA kw) 0 := fun _ => rfl
  refine wp_seq' (wp_seq' (wp_r (by simp [push_cast, qc, klA_len]; exact rfl) ?_))
  refine wp_block' (wp_loop_m (fun (x : Nat × List Bool) => (⟨N, [.ptr t.b t.l 0 [], .own c Vc, .any, .any, .lit .nilFunc, .ptr (N + 17) l17 0 []] ++ List.replicate 12 .any ++ [.own c Vc, .lit (jn seen.length), .lit (jn x.1)] ++ List.replicate 36 .any, H ++ (List.replicate 15 none ++ [some (frk Vk x.2), none, some (.box l17 2 (.st [1, 1] [.ptr t.b t.l 0 [], .own (N + 15) Vk]))] ++ List.replicate 39 none)⟩ : AS))
    (fun x => seen.length - x.1) (fun x => learnS x.2 (seen.drop x.1) = learnS (List.replicate ts.length false) seen ∧ x.1 ≤ seen.length ∧ x.2.length = ts.length) (0, List.replicate ts.length false) (Le.mk rfl (by simp [leT]) ?_) ⟨rfl, by simp, by simp⟩ ?_)
  · exact leH_app (leH_refl _) (by simp [leH, frk1, kwA])
  rintro ⟨i, kw⟩ ⟨hI, hi, hkl⟩
  simp only at hI hi hkl ⊢
  by_cases hlt : i < seen.length
  · obtain ⟨u, hu⟩ : ∃ u, seen[i]? = some u := ⟨_, List.getElem?_eq_getElem hlt⟩
    have hdrop : seen.drop i = u :: seen.drop (i + 1) := by
      rw [List.drop_eq_getElem_cons hlt]
      rw [List.getElem?_eq_getElem hlt] at hu
      rw [Option.some.inj hu]
    rw [hdrop, learnS] at hI
    have hu32 := h32 u (List.mem_of_getElem? hu)
    have j1 : (klA seen)[i]? = some (keyA u) := by rw [klA_get, hu]; rfl
    have j2 : ∀ h, (klA seen)[i]'h = keyA u := fun h => by rw [List.getElem?_eq_getElem h] at j1; exact Option.some.inj j1
    have j3 : i + 1 < 9223372036854775808 := by omega
    have cl := fun L e15 e17 => learn_call (hFt kw L hkl e15 e17).fc hu32
    have hl4 := learnV_len kw u
    generalize learnV kw u = lv at *
    obtain ⟨b5, k5⟩ := lv
    simp only at hI hl4 cl
    have hfb : f.b = N + 17 := by rw [hf]
    have hfl : f.l = l17 := by rw [hf]
    rw [hfb, hfl] at cl
    refine wp_sr (by simp [push_cast, hlt]; exact rfl) (wp_seq' (wp_cond_t (by simp [AS.ev]) (wp_skip' ?_)))
    refine wp_seq' (wp_block' (wp_sg ?_))
    refine areg_run 2 (by simp [push_cast, qc, j1, j2, hlt, klA_len]; exact rfl) ?_
    refine areg_al' zk_eq.symm fun l7 => areg_end (by simp [push_cast, q1, q2, hu32]; exact rfl) ?_
    refine wp_rg ?_
    refine areg_run 2 (by simp [push_cast, q1, hu32]; exact rfl) ?_
    refine areg_xc rfl (cl _ rfl rfl) ⟨_, _, rfl, rfl⟩ ?_
    rintro _ _ ⟨rfl, rfl⟩
    rw [hko]
    refine areg_end (by simp [push_cast]; exact rfl) ?_
    refine wp_r (by simp [push_cast, j3]; exact rfl) ?_
    exact Exists.intro (i + 1, k5) ⟨⟨hI, by omega, by simp only; omega⟩, by simp only; omega, Le.mk rfl (by simp [leT]) (leH_app (leH_refl _) (by simp [leH]))⟩
  have hin : i = seen.length := by omega
  subst hin
  rw [List.drop_length, learnS] at hI
  refine wp_sr (by simp [push_cast]; exact rfl) (wp_seq' (wp_cond_f (by simp [AS.ev]) (wp_exit' (if_hit rfl ?_))))
  -- rounds
  refine wp_seqL (wp_block' (wp_loop_m (fun kw : List Bool => (⟨N, [.ptr t.b t.l 0 [], .own c Vc, .any, .any, .lit .nilFunc, .ptr (N + 17) l17 0 []] ++ List.replicate 51 .any, H ++ (List.replicate 15 none ++ [some (frk Vk kw), none, some (.box l17 2 (.st [1, 1] [.ptr t.b t.l 0 [], .own (N + 15) Vk]))] ++ List.replicate 39 none)⟩ : AS))
    (fun kw => kw.count false) (fun kw => Rounds ts (learnS (List.replicate ts.length false) seen) kw) kw (Le.mk rfl (by simp [leT]) (leH_app (leH_refl _) (by simp [leH]))) (by rw [hI]; exact .refl _) ?_))
  clear hI hkl
  clear kw
  intro kw hR
  have hkl : kw.length = ts.length := by rw [hR.len, learnS_len, List.length_replicate]
  simp only
  have cr := fun L e15 e17 => round_call (hFt kw L hkl e15 e17) hts
  have hstep := Rounds.step _ _ hR
  have hmo : MoreOk kw false (roundV ts kw) := MoreOk.roundG ts ts 0 kw false
  have hrl : (roundV ts kw).1.length = kw.length := roundG_len ts ts 0 kw false
  generalize hrv : roundV ts kw = rv at *
  obtain ⟨k6, b6⟩ := rv
  obtain ⟨m1, m2, m3⟩ := hmo
  simp only at m1 m2 m3 cr hstep hrl
  have hfb : f.b = N + 17 := by rw [hf]
  have hfl : f.l = l17 := by rw [hf]
  rw [hfb, hfl] at cr
  refine wp_seq' (wp_seq' (wp_rg ?_))
  refine areg_run 1 (by simp [push_cast]; exact rfl) ?_
  refine areg_xc rfl (cr _ rfl rfl) ⟨_, _, rfl, rfl⟩ ?_
  rintro _ _ ⟨rfl, rfl⟩
  rw [hko]
  refine areg_end (by simp [push_cast]; exact rfl) ?_
  cases b6 with
  | true =>
    refine wp_cond_t (by simp [AS.ev]) (wp_skip' (wp_block' (wp_skip' ?_)))
    refine Exists.intro k6 ⟨hstep, ?_, Le.mk rfl (by simp [leT]) (leH_app (leH_refl _) (by simp [leH]))⟩
    rcases m2 rfl with h | h
    · cases h
    · exact h
  | false =>
    obtain ⟨_, hkk⟩ := m3 rfl
    subst hkk
    refine wp_cond_f (by simp [AS.ev]) (wp_exit' (if_hit rfl ?_))
    refine ⟨_, Le.refl _, ?_⟩
    have hfo : FolOk ts seen k6 := ⟨hR, hrv⟩
    have hfin : ∀ (x8 : AV) (l50 : Nat × Nat), LenX [] x8 ts.length → FolK H ts seen (cloH (N + 17) l17) (H ++ (List.replicate 15 none ++ [some (frk Vk k6), none, some (.box l17 2 (.st [1, 1] [.ptr (N + 50) l50 0 [], .own (N + 15) Vk]))] ++ List.replicate 32 none ++ [some (.box l50 2 (.st [1, 1] [x8, .own t.m (.map (some t.r))]))])) := fun x8 l50 h8 => by
      refine ⟨k6, ⟨N + 17, l17, N + 15, N + 50, l50⟩, Vk, _, hfo, rfl, rfl, fun G hG => ?_⟩
      have e := fun k => cat1 N G (List.replicate 15 none ++ [some (frk Vk k6), none, some (.box l17 2 (.st [1, 1] [.ptr (N + 50) l50 0 [], .own (N + 15) Vk]))] ++ List.replicate 32 none ++ [some (.box l50 2 (.st [1, 1] [x8, .own t.m (.map (some t.r))]))]) k (by omega)
      refine ⟨by rw [e]; rfl, by rw [e]; rfl, ⟨x8, .own t.m (.map (some t.r)), by rw [e]; rfl, ?_⟩, by omega⟩
      rw [hkl]
      rcases h8 with ⟨j, V, els, sl, _, h, _⟩ | h | h
      · simp at h
      · exact .inr (.inl h)
      · exact .inr (.inr h)
    have hfin2 : ∀ (x8 : AV) (l50 : Nat × Nat) (R : List (Option Blk)) (s : AS), LenX [] x8 ts.length → RVal s (.tmp 4) = some (cloH (N + 17) l17) → s.hp = H ++ (List.replicate 15 none ++ [some (frk Vk k6), none, some (.box l17 2 (.st [1, 1] [.ptr (N + 50) l50 0 [], .own (N + 15) Vk]))] ++ List.replicate 32 none ++ [some (.box l50 2 (.st [1, 1] [x8, .own t.m (.map (some t.r))]))]) ++ R → ∃ s1, Le s s1 ∧ FinX [RV.tmp 4] s1 fun r H' => ∃ r' A, RelLe r r' ∧ r' ≠ .any ∧ HpLe H' A ∧ FolK H ts seen r' A := fun x8 l50 R s h8 hr hR =>
      ⟨s, Le.refl _, finX1 hr (by simp [cloH]) ⟨_, _, RelLe.refl _, by simp [cloH], by rw [hR]; exact HpLe.trim _ _, hfin x8 l50 h8⟩⟩
    refine wp_sg ?_
    have n50 : ¬ t.b = N + 50 := by omega
    have n50j : ¬ t.j = N + 50 := by omega
    refine areg_run 14 (by simp [push_cast, q6, q7, hml, n50, n50j]; exact rfl) ?_
    rcases hV with ⟨rfl, hnil⟩ | ⟨g, cc, hVs, hcc⟩
    · have hz : ts.length = 0 := by rw [← hml, hnil]; rfl
      refine areg_rdp (us := [.own t.j (.slice none 0 0), .lit (jn ts.length), .lit (jn ts.length)]) (v := .lit (.slice none 0 0)) rfl (by rw [hz]; simp [rdA, rdB, jn]) ?_
      refine areg_run 5 (by simp [push_cast, q6, n50]; exact rfl) ?_
      refine areg_bx rfl rfl fun l50 => areg_end (by simp [push_cast, q2]; exact rfl) ?_
      refine wp_sr (by simp [push_cast, q1, q2]; exact rfl) ?_
      refine wp_sg ?_
      refine areg_run 1 (by simp [push_cast]; exact rfl) ?_
      refine areg_rdp (us := [.ptr (N + 17) l17 0 []]) rfl (mkfn_cloH _ _) ?_
      refine areg_end (by simp [push_cast]; exact rfl) (wp_ret' ?_)
      exact hfin2 (.lit (.slice none 0 0)) l50 (List.replicate 6 none) _ (.inr (.inr ⟨rfl, hz⟩)) (by simp [RVal, AS.ev, AS.coe, cloH]) (by simp)
    · rw [hml] at hVs hcc
      have hcap : rdA Go.Proofs.Tryd.prog (fun _ => none) (.cap3 3) [.own t.j V, .lit (jn ts.length), .lit (jn ts.length)] = some (.view 0 (g, 0) 0 [] 3 0 ts.length ts.length) := by
        subst hVs
        simp [rdA, rdB, jn, hcc]
      refine areg_rdp (us := [.own t.j V, .lit (jn ts.length), .lit (jn ts.length)]) (v := .view 0 (g, 0) 0 [] 3 0 ts.length ts.length) rfl hcap ?_
      refine areg_run 5 (by simp [push_cast, q6, n50]; exact rfl) ?_
      refine areg_bx rfl rfl fun l50 => areg_end (by simp [push_cast, q2]; exact rfl) ?_
      refine wp_sr (by simp [push_cast, q1, q2]; exact rfl) ?_
      refine wp_sg ?_
      refine areg_run 1 (by simp [push_cast]; exact rfl) ?_
      refine areg_rdp (us := [.ptr (N + 17) l17 0 []]) rfl (mkfn_cloH _ _) ?_
      refine areg_end (by simp [push_cast]; exact rfl) (wp_ret' ?_)
      exact hfin2 (.view 0 (g, 0) 0 [] 3 0 ts.length ts.length) l50 (List.replicate 6 none) _ (.inr (.inl ⟨_, _, _, _, _, _, rfl⟩)) (by simp [RVal, AS.ev, AS.coe, cloH]) (by simp)
end Go.Cab

/- What follows, plain: no more than any set that is closed; all that can be made. -/
-- TEXTS
-- KIT
namespace Go.Cab
open Classical

/-- Is it known? -/
def Kn (known : List Bool) (i : Nat) : Prop := known.getD i false = true
def KLe (a b : List Bool) : Prop := a.length = b.length ∧ ∀ i, Kn a i → Kn b i
theorem KLe.refl (a : List Bool) : KLe a a := ⟨rfl, fun _ h => h⟩
theorem KLe.trans {a b c : List Bool} (h : KLe a b) (k : KLe b c) : KLe a c := ⟨h.1.trans k.1, fun i x => k.2 i (h.2 i x)⟩
theorem Kn.lt {known : List Bool} {i : Nat} (h : Kn known i) : i < known.length := by
  by_cases hi : i < known.length
  · exact hi
  · unfold Kn at h; rw [List.getD_eq_getElem?_getD, List.getElem?_eq_none (by omega)] at h; cases h
theorem Kn.set {known : List Bool} {i j : Nat} (h : Kn (known.set i true) j) : j = i ∨ Kn known j := by
  by_cases e : i = j
  · exact .inl e.symm
  · refine .inr ?_
    unfold Kn at *
    rw [List.getD_eq_getElem?_getD, List.getElem?_set_ne e] at h
    rwa [List.getD_eq_getElem?_getD]
theorem Kn.of_set {known : List Bool} {i j : Nat} (h : Kn known j) : Kn (known.set i true) j := by
  unfold Kn at *
  rw [List.getD_eq_getElem?_getD, List.getElem?_set]
  split
  · split
    · rfl
    · rename_i e h'; subst e; exact absurd (Kn.lt h) h'
  · rwa [← List.getD_eq_getElem?_getD]
theorem Kn.set_self {known : List Bool} {i : Nat} (h : i < known.length) : Kn (known.set i true) i := by
  unfold Kn; rw [List.getD_eq_getElem?_getD, List.getElem?_set_self h]; rfl

theorem hasV_mono {a b : List Bool} (h : KLe a b) {k : List UInt8} (hk : hasV a k = true) : hasV b k = true := by
  unfold hasV at *
  split
  · rename_i e; rw [if_pos e] at hk; exact h.2 _ hk
  · rfl
theorem pubV_mono {a b : List Bool} (h : KLe a b) {ts : List Term} {k : List UInt8} (hk : pubV ts a k = true) : pubV ts b k = true := by
  unfold pubV at *
  simp only [Bool.or_eq_true] at hk ⊢
  rcases hk with hk | hk
  · exact .inl (hasV_mono h hk)
  · refine .inr ?_
    cases hf : findT (shapeT (pubT k)) ts 0 with
    | none => rw [hf] at hk; cases hk
    | some n => rw [hf] at hk; exact h.2 n hk
theorem madeV_mono {a b : List Bool} (h : KLe a b) {ts : List Term} {x : Term} (hk : madeV ts a x = true) : madeV ts b x = true := by
  unfold madeV at *
  split
  · rename_i e; rw [if_pos e] at hk; cases hk
  · rename_i e
    rw [if_neg e] at hk
    split
    · rename_i e4
      rw [if_pos e4] at hk
      simp only [Bool.or_eq_true, Bool.and_eq_true] at hk ⊢
      exact hk.imp (fun x => ⟨hasV_mono h x.1, pubV_mono h x.2⟩) (fun x => ⟨hasV_mono h x.1, pubV_mono h x.2⟩)
    · rename_i e4
      rw [if_neg e4] at hk
      rw [List.all_eq_true] at hk ⊢
      exact fun k hm => hasV_mono h (hk k hm)

/-- A set that nothing leads out of. -/
structure Clo (ts : List Term) (S : List Bool) : Prop where
  len : S.length = ts.length
  made : ∀ i x, ts[i]? = some x → madeV ts S x = true → Kn S i
  opens : ∀ i x, ts[i]? = some x → x.kind = 6 → Kn S i → hasV S (x.keys.getD 0 zk) = true → ∀ k ∈ x.keys.drop 2, nameK (be32 k) = k → be32 k < ts.length → Kn S (be32 k)

section
variable {ts : List Term} {S : List Bool}
theorem learn_in {known : List Bool} (hle : KLe known S) {k : List UInt8} (hk : nameK (be32 k) = k → be32 k < S.length → Kn S (be32 k)) : KLe (learnV known k).2 S := by
  unfold learnV
  split
  · rename_i h
    obtain ⟨h1, h2, _⟩ := h
    refine ⟨by simp [hle.1], fun i hi => ?_⟩
    rcases Kn.set hi with rfl | hi
    · exact hk h1 (by rw [← hle.1]; exact h2)
    · exact hle.2 i hi
  · exact hle
theorem learnL_in : ∀ (ks : List (List UInt8)) {known : List Bool} {more : Bool}, KLe known S → (∀ k ∈ ks, nameK (be32 k) = k → be32 k < S.length → Kn S (be32 k)) → KLe (learnL known more ks).1 S
  | [], _, _, h, _ => h
  | k :: ks, _, _, h, hk => learnL_in ks (learn_in h (hk k (by simp))) (fun u hu => hk u (by simp [hu]))
theorem learnS_in : ∀ (ks : List (List UInt8)) {known : List Bool}, KLe known S → (∀ k ∈ ks, nameK (be32 k) = k → be32 k < S.length → Kn S (be32 k)) → KLe (learnS known ks) S
  | [], _, h, _ => h
  | k :: ks, _, h, hk => learnS_in ks (learn_in h (hk k (by simp))) (fun u hu => hk u (by simp [hu]))
theorem step_in (hc : Clo ts S) {i : Nat} {x : Term} (hx : ts[i]? = some x) {known : List Bool} {more : Bool} (hle : KLe known S) : KLe (stepV ts i known more x).1 S := by
  have h1 : KLe (step1 ts i known more x).1 S := by
    unfold step1
    split
    · rename_i h
      refine ⟨by simp [hle.1], fun j hj => ?_⟩
      rcases Kn.set hj with rfl | hj
      · exact hc.made _ x hx (madeV_mono hle h.2)
      · exact hle.2 j hj
    · exact hle
  unfold stepV step2
  split
  · rename_i h
    obtain ⟨h2, h3, h4⟩ := h
    exact learnL_in _ h1 fun k hk e1 e2 => hc.opens i x hx h3 (h1.2 i h2) (hasV_mono h1 h4) k hk e1 (by rw [← hc.len]; exact e2)
  · exact h1
theorem roundG_in (hc : Clo ts S) : ∀ (xs : List Term) (i : Nat) (known : List Bool) (more : Bool), (∀ j x, xs[j]? = some x → ts[i + j]? = some x) → KLe known S → KLe (roundG ts xs i known more).1 S
  | [], _, _, _, _, h => h
  | x :: xs, i, known, more, hx, h => by
    rw [roundG]
    exact roundG_in hc xs (i + 1) _ _ (fun j y hy => by rw [show i + 1 + j = i + (j + 1) by omega]; exact hx (j + 1) y (by simpa using hy)) (step_in hc (by simpa using hx 0 x rfl) h)
theorem Rounds.in (hc : Clo ts S) {a b : List Bool} (h : Rounds ts a b) (ha : KLe a S) : KLe b S := by
  induction h with
  | refl => exact ha
  | step k' _ ih => exact roundG_in hc ts 0 _ _ (fun j x h => by simpa using h) ih
/-- NO MORE FOLLOWS than a closed set has. -/
theorem FolOk.in {seen : List (List UInt8)} {K : List Bool} (h : FolOk ts seen K) (hc : Clo ts S) (hs : ∀ k ∈ seen, nameK (be32 k) = k → be32 k < ts.length → Kn S (be32 k)) : KLe K S := by
  refine h.of.in hc (learnS_in seen ⟨by rw [List.length_replicate, hc.len], fun i hi => ?_⟩ (fun k hk e1 e2 => hs k hk e1 (by rw [← hc.len]; exact e2)))
  unfold Kn at hi
  rw [List.getD_eq_getElem?_getD, List.getElem?_replicate] at hi
  split at hi <;> simp at hi
end

/-! ### What is known stays so -/
theorem learn_up (known : List Bool) (k : List UInt8) : KLe known (learnV known k).2 := by
  unfold learnV
  split
  · exact ⟨by simp, fun i h => h.of_set⟩
  · exact KLe.refl _
theorem learnL_up : ∀ (ks : List (List UInt8)) (known : List Bool) (more : Bool), KLe known (learnL known more ks).1
  | [], _, _ => KLe.refl _
  | k :: ks, known, more => (learn_up known k).trans (learnL_up ks _ _)
theorem learnS_up : ∀ (ks : List (List UInt8)) (known : List Bool), KLe known (learnS known ks)
  | [], _ => KLe.refl _
  | k :: ks, known => (learn_up known k).trans (learnS_up ks _)
theorem step_up (ts : List Term) (i : Nat) (known : List Bool) (more : Bool) (x : Term) : KLe known (stepV ts i known more x).1 := by
  have h1 : KLe known (step1 ts i known more x).1 := by
    unfold step1; split
    · exact ⟨by simp, fun i h => h.of_set⟩
    · exact KLe.refl _
  refine h1.trans ?_
  unfold stepV step2
  split
  · exact learnL_up _ _ _
  · exact KLe.refl _
theorem roundG_up (ts : List Term) : ∀ (xs : List Term) (i : Nat) (known : List Bool) (more : Bool), KLe known (roundG ts xs i known more).1
  | [], _, _, _ => KLe.refl _
  | x :: xs, i, known, more => (step_up ts i known more x).trans (roundG_up ts xs _ _ _)
theorem Rounds.up {ts : List Term} {a b : List Bool} (h : Rounds ts a b) : KLe a b := by
  induction h with
  | refl => exact KLe.refl _
  | step k' _ ih => exact ih.trans (roundG_up ts ts 0 _ _)
theorem learn_has {known : List Bool} {k : List UInt8} (h1 : nameK (be32 k) = k) (h2 : be32 k < known.length) : Kn (learnV known k).2 (be32 k) := by
  unfold learnV
  by_cases h : known.getD (be32 k) true = false
  · rw [if_pos ⟨h1, h2, h⟩]; exact Kn.set_self h2
  · rw [if_neg (fun x => h x.2.2)]
    unfold Kn
    rw [List.getD_eq_getElem?_getD, List.getElem?_eq_getElem h2] at h ⊢
    simpa using h
theorem learnS_has (ks : List (List UInt8)) : ∀ {known : List Bool} {k : List UInt8}, k ∈ ks → nameK (be32 k) = k → be32 k < known.length → Kn (learnS known ks) (be32 k) := by
  induction ks with
  | nil => intro _ _ hk; cases hk
  | cons u ks ih =>
    intro known k hk h1 h2
    rw [learnS]
    rcases List.mem_cons.1 hk with e | hk
    · rw [← e]
      exact (learnS_up ks _).2 _ (learn_has h1 h2)
    · exact ih hk h1 (by rw [learnV_len]; exact h2)
/-- What was seen is known. -/
theorem FolOk.seen {ts : List Term} {seen : List (List UInt8)} {K : List Bool} (h : FolOk ts seen K) {k : List UInt8} (hk : k ∈ seen) (h1 : nameK (be32 k) = k) (h2 : be32 k < ts.length) : Kn K (be32 k) :=
  h.of.up.2 _ (learnS_has seen hk h1 (by rw [List.length_replicate]; exact h2))

theorem roundG_end (ts : List Term) : ∀ (xs : List Term) (i : Nat) (K : List Bool), roundG ts xs i K false = (K, false) → ∀ j x, xs[j]? = some x → stepV ts (i + j) K false x = (K, false)
  | [], _, _, _, j, x, hx => by simp at hx
  | y :: xs, i, K, h, j, x, hx => by
    rw [roundG] at h
    have hm := MoreOk.roundG ts xs (i + 1) (stepV ts i K false y).1 (stepV ts i K false y).2
    rw [h] at hm
    obtain ⟨_, _, h3⟩ := hm
    obtain ⟨e1, e2⟩ := h3 rfl
    have hs : stepV ts i K false y = (K, false) := Prod.ext e2.symm e1
    cases j with
    | zero => simp only [List.getElem?_cons_zero, Option.some.injEq] at hx; subst hx; exact hs
    | succ j =>
      rw [hs] at h
      rw [show i + (j + 1) = i + 1 + j by omega]
      exact roundG_end ts xs (i + 1) K h j x (by simpa using hx)
/-- ALL that can be made of it is known. -/
theorem FolOk.clo {ts : List Term} {seen : List (List UInt8)} {K : List Bool} (h : FolOk ts seen K) : Clo ts K := by
  have hstep := fun i x hx => roundG_end ts ts 0 K h.end_ i x hx
  refine ⟨h.len, fun i x hx hm => ?_, fun i x hx h6 hi hh k hk h1 h2 => ?_⟩
  · have := hstep i x hx
    rw [Nat.zero_add] at this
    have m1 := MoreOk.step2 i (step1 ts i K false x).1 (step1 ts i K false x).2 x
    have e : step2 i (step1 ts i K false x).1 (step1 ts i K false x).2 x = (K, false) := this
    rw [e] at m1
    obtain ⟨_, _, m3⟩ := m1
    obtain ⟨e1, e2⟩ := m3 rfl
    have hlt : i < K.length := by rw [h.len]; exact (List.getElem?_eq_some_iff.1 hx).1
    by_cases hk : K.getD i true = false
    · unfold step1 at e1
      rw [if_pos ⟨hk, hm⟩] at e1
      cases e1
    · unfold Kn
      rw [List.getD_eq_getElem?_getD, List.getElem?_eq_getElem hlt] at hk ⊢
      simpa using hk
  · have := hstep i x hx
    rw [Nat.zero_add] at this
    have e : step2 i (step1 ts i K false x).1 (step1 ts i K false x).2 x = (K, false) := this
    have m1 := MoreOk.step2 i (step1 ts i K false x).1 (step1 ts i K false x).2 x
    rw [e] at m1
    obtain ⟨_, _, m3⟩ := m1
    obtain ⟨e1, e2⟩ := m3 rfl
    simp only at e2
    rw [← e2, e1] at e
    unfold step2 at e
    rw [if_pos ⟨hi, h6, hh⟩] at e
    have hL : ∀ (ks : List (List UInt8)) (known : List Bool) (more : Bool), (learnL known more ks).2 = false → ∀ k ∈ ks, nameK (be32 k) = k → be32 k < known.length → Kn known (be32 k) := by
      intro ks
      induction ks with
      | nil => intro _ _ _ k hk; cases hk
      | cons u ks ih =>
        intro known more hf k hk h1 h2
        rw [learnL] at hf
        have ml := MoreOk.learnL ks (learnV known u).2 ((learnV known u).1 || more)
        obtain ⟨_, _, m3⟩ := ml
        obtain ⟨a, _⟩ := m3 hf
        have hu : (learnV known u).2 = known := (learnV_cnt known u).2 (by simp at a; exact a.1)
        rcases List.mem_cons.1 hk with rfl | hk
        · have := learn_has h1 h2; rwa [hu] at this
        · have := ih _ _ hf k hk h1 (by rw [hu]; exact h2); rwa [hu] at this
    exact hL _ K false (by rw [e]) k hk h1 (by rw [h.len]; exact h2)

/-! ### Sets of terms -/
/-- Those terms for which something holds. -/
noncomputable def setOf (ts : List Term) (Q : Term → Prop) : List Bool := ts.map fun x => decide (Q x)
theorem setOf_len (ts : List Term) (Q : Term → Prop) : (setOf ts Q).length = ts.length := by simp [setOf]
theorem setOf_kn {ts : List Term} {Q : Term → Prop} {i : Nat} {x : Term} (hx : ts[i]? = some x) : Kn (setOf ts Q) i ↔ Q x := by
  unfold Kn setOf
  rw [List.getD_eq_getElem?_getD, List.getElem?_map, hx]
  simp
theorem hasV_nm {ts : List Term} (hts : TsOk ts) {known : List Bool} {x : Term} {k : List UInt8} (h : Nm ts x k) : ∃ n, k = nameK n ∧ In ts x n ∧ nameK (be32 k) = k ∧ be32 k = n ∧ hasV known k = known.getD n false := by
  obtain ⟨n, rfl, hn⟩ := h
  have hl := hts.len
  have hlt := hn.lt
  have e : be32 (nameK n) = n := be32_name (by omega)
  exact ⟨n, rfl, hn, by rw [e], e, by unfold hasV; rw [e, if_pos rfl]⟩
theorem hasV_set {ts : List Term} (hts : TsOk ts) {Q : Term → Prop} {x : Term} (hx : TermOk x) {k : List UInt8} (h : Nm ts x k) : hasV (setOf ts Q) k = true ↔ Q x := by
  obtain ⟨n, rfl, hn, _, _, e⟩ := hasV_nm hts (known := setOf ts Q) h
  rw [e]
  exact setOf_kn (hn.get hts hx)
theorem pubV_set {ts : List Term} (hts : TsOk ts) {Q : Term → Prop} {x : Term} (hx : TermOk x) {k : List UInt8} (h : Nm ts x k) (hq : pubV ts (setOf ts Q) k = true) : Q x ∨ (∃ n, In ts (pubT k) n) ∧ Q (pubT k) := by
  unfold pubV at hq
  simp only [Bool.or_eq_true] at hq
  rcases hq with hq | hq
  · exact .inl ((hasV_set hts hx h).1 hq)
  · refine .inr ?_
    cases hf : findT (shapeT (pubT k)) ts 0 with
    | none => rw [hf] at hq; cases hq
    | some n =>
      rw [hf] at hq
      have hin : In ts (pubT k) n := hf
      exact ⟨⟨n, hin⟩, (setOf_kn (hin.get hts (pubT_ok h.len))).1 hq⟩
end Go.Cab

/- Chain, plain: what is behind follows of nothing that is ahead. -/
-- TEXTS
-- KIT
namespace Go.Cab
open Classical

/-- What came ahead (keys of messages, and of the chain), and the chain's key now. -/
structure Fg (ts : List Term) (ws : List (List UInt8)) (c : List UInt8) : Prop where
  old : ∀ k ∈ ws, ∃ x, TermOk x ∧ Nm ts x k ∧ (x.kind = 1 ∨ ∃ q ∈ ws, ∃ s, x = ⟨2, s, [q]⟩)
  now : ∃ x, TermOk x ∧ Nm ts x c ∧ (x.kind = 1 ∨ ∃ q ∈ ws, x = sT2 q)
  new : c ∉ ws
  box : ∀ y ∈ ts, y.kind = 6 → y.keys.length = 2
theorem sT2_inj {a b : List UInt8} (h : sT2 a = sT2 b) : a = b := by simpa [sT2] using h
theorem Fg.ch {ts : List Term} {ws : List (List UInt8)} {c : List UInt8} (h : Fg ts ws c) : ChOk ts c := by
  obtain ⟨x, h1, h2, h3⟩ := h.now
  refine ⟨x, h1, h2, fun e => ?_⟩
  subst e
  rcases h3 with h3 | ⟨q, hq, e⟩
  · simp [sT2] at h3
  · exact h.new (by rw [sT2_inj e]; exact hq)
theorem Fg.l32 {ts : List Term} {ws : List (List UInt8)} {c : List UInt8} (h : Fg ts ws c) : ∀ k ∈ ws, k.length = 32 := fun k hk => by
  obtain ⟨x, _, h2, _⟩ := h.old k hk
  exact h2.len
theorem Fg.mono {ts us : List Term} {ws : List (List UInt8)} {c : List UInt8} (h : Fg ts ws c) (p : ts <+: us) (hb : ∀ y ∈ us, y.kind = 6 → y.keys.length = 2) : Fg us ws c :=
  ⟨fun k hk => by obtain ⟨x, h1, h2, h3⟩ := h.old k hk; exact ⟨x, h1, h2.mono p, h3⟩, by obtain ⟨x, h1, h2, h3⟩ := h.now; exact ⟨x, h1, h2.mono p, h3⟩, h.new, hb⟩
theorem Fg.next {us : List Term} (hus : TsOk us) {ws : List (List UInt8)} {c a d : List UInt8} (h : Fg us ws c) (ha : Nm us (sT1 c) a) (hd : Nm us (sT2 c) d) : Fg us (ws ++ [a, c]) d := by
  have hc := h.ch.len
  have o1 := sT1_ok hc
  have o2 := sT2_ok hc
  refine ⟨fun k hk => ?_, ⟨sT2 c, o2, hd, .inr ⟨c, by simp, rfl⟩⟩, fun hk => ?_, h.box⟩
  · simp only [List.mem_append, List.mem_cons, List.not_mem_nil, or_false] at hk
    rcases hk with hk | rfl | rfl
    · obtain ⟨x, h1, h2, h3⟩ := h.old k hk
      exact ⟨x, h1, h2, h3.imp id fun ⟨q, hq, e⟩ => ⟨q, by simp [hq], e⟩⟩
    · exact ⟨sT1 c, o1, ha, .inr ⟨c, by simp, _, rfl⟩⟩
    · obtain ⟨x, h1, h2, h3⟩ := h.now
      exact ⟨x, h1, h2, h3.imp id fun ⟨q, hq, e⟩ => ⟨q, by simp [hq], _, e⟩⟩
  · simp only [List.mem_append, List.mem_cons, List.not_mem_nil, or_false] at hk
    rcases hk with hk | e | e
    · obtain ⟨x, h1, h2, h3⟩ := h.old d hk
      have e := h2.inj hd hus h1 o2
      subst e
      rcases h3 with h3 | ⟨q, hq, s, e⟩
      · simp [sT2] at h3
      · simp [sT2] at e
        exact h.new (by rw [e.2]; exact hq)
    · subst e
      have := ha.inj hd hus o1 o2
      simp [sT1, sT2] at this
    · subst e
      obtain ⟨x, h1, h2, h3⟩ := h.now
      have e := h2.inj hd hus h1 o2
      subst e
      rcases h3 with h3 | ⟨q, hq, e⟩
      · simp [sT2] at h3
      · exact h.new (by rw [sT2_inj e]; exact hq)
theorem key2_none {n : Nat} : nameK n ≠ key2 := fun h => by
  have := congrArg (fun l => l.getD 0 0) h
  revert this
  simp [nameK, key2]
/-- NONE OF IT FOLLOWS of the chain's key now, the other key, and a box. -/
theorem Fg.hides {ts : List Term} (hts : TsOk ts) {ws : List (List UInt8)} {c : List UInt8} (h : Fg ts ws c) {x : Term} {m : List UInt8} (hx : TermOk x) (h6 : x.kind = 6) (hm : Nm ts x m) {K : List Bool} (hK : FolOk ts [c, key2, m] K) : ∀ k ∈ ws, hasV K k = false := by
  have hclo : Clo ts (setOf ts fun y => ¬ ∃ k ∈ ws, Nm ts y k) := by
    refine ⟨setOf_len _ _, fun i y hy hmd => (setOf_kn hy).2 ?_, fun i y hy h6 _ _ k hk => ?_⟩
    · rintro ⟨k, hk, hn⟩
      obtain ⟨z, h1, h2, h3⟩ := h.old k hk
      have e := h2.inj hn hts h1 (hts.ok y (List.mem_of_getElem? hy))
      subst e
      rcases h3 with h3 | ⟨q, hq, s, e⟩
      · unfold madeV at hmd
        rw [if_pos h3] at hmd
        cases hmd
      · subst e
        obtain ⟨z, g1, g2, _⟩ := h.old q hq
        unfold madeV at hmd
        simp only [show ¬ ((2 : Nat) = 1) by omega, show ¬ ((2 : Nat) = 4) by omega, if_false, List.all_cons, List.all_nil, Bool.and_true] at hmd
        exact (hasV_set hts g1 g2).1 hmd ⟨q, hq, g2⟩
    · have := h.box y (List.mem_of_getElem? hy) h6
      rw [List.drop_eq_nil_of_le (by omega)] at hk
      cases hk
  have hle := hK.in hclo fun k hk e1 e2 => by
    simp only [List.mem_cons, List.not_mem_nil, or_false] at hk
    rcases hk with rfl | rfl | rfl
    · obtain ⟨y, h1, h2, _⟩ := h.now
      obtain ⟨n, _, hi, _, e, _⟩ := hasV_nm hts (known := K) h2
      rw [e]
      refine (setOf_kn (hi.get hts h1)).2 ?_
      rintro ⟨k', hk, hn⟩
      exact h.new (by rw [h2.fun hn]; exact hk)
    · exact absurd e1 key2_none
    · obtain ⟨n, _, hi, _, e, _⟩ := hasV_nm hts (known := K) hm
      rw [e]
      refine (setOf_kn (hi.get hts hx)).2 ?_
      rintro ⟨k', hk, hn⟩
      obtain ⟨z, g1, g2, g3⟩ := h.old k' hk
      have e := g2.inj hn hts g1 hx
      subst e
      rcases g3 with g3 | ⟨q, _, s, rfl⟩
      · omega
      · simp at h6
  intro k hk
  cases hb : hasV K k with
  | false => rfl
  | true =>
    obtain ⟨z, g1, g2, _⟩ := h.old k hk
    exact absurd ⟨k, hk, g2⟩ ((hasV_set hts g1 g2).1 (hasV_mono hle hb))

set_option maxHeartbeats 1000000 in
theorem forget_law {ts : List Term} (hts : TsOk ts) (hl : ts.length + 20 < 90000) {ws : List (List UInt8)} {c : List UInt8} (h : Fg ts ws c) {n : Nat} (h0 : 0 < n) (h1 : n < 100) {s : List UInt8} (hs : s.length ≤ 64) {a d m : List UInt8} {t1 us : List Term}
    (hn : nextV ts c = ((a, d), t1)) (hm : msgV itD t1 (sayO n []) c s = (m, us)) :
    TsOk t1 ∧ t1.length ≤ ts.length + 2 ∧ (nextV t1 c).1.2 = d ∧ a.length = 32 ∧ d.length = 32 ∧ m.length = 32 ∧ TsOk us ∧ us.length ≤ ts.length + 4 ∧ Fg us (ws ++ [a, c]) d ∧
      ∀ K, FolOk us [d, key2, m] K → ∀ k ∈ ws ++ [a, c], hasV K k = false := by
  have hc := h.ch.len
  obtain ⟨a1, a2, a3⟩ := nextV_nm ts c
  have a4 := nextV_ok hts (by omega) hc
  have a5 := nextV_len ts c
  have a6 : ∀ y ∈ (nextV ts c).2, y.kind = 6 → y.keys.length = 2 := fun y hy h6 => by
    rw [nextV_eq] at hy
    rcases mem_put hy with hy | rfl
    · rcases mem_put hy with hy | rfl
      · exact h.box y hy h6
      · simp [sT1] at h6
    · simp [sT2] at h6
  rw [hn] at a1 a2 a3 a4 a5 a6
  simp only at a1 a2 a3 a4 a5 a6
  have e1 := nextV_again a1 a2
  have hr := says_right (sayO_says h0 (n := n) (m := txX) (by simp [txX]) (by simp [txX]))
  have ho : OpOk (sayO n txX) := sayO_ok h1 (by simp [txX])
  obtain ⟨b1, b2⟩ := byV_nm (it := itD) (ts := t1) hr
  have b4 := byV_ok a4 (by omega) ho (by simp [sayO]) (by simp [sayO]) hr
  have b5 := byV_len itD t1 (sayO n txX)
  have b6 : ∀ y ∈ (byV itD t1 (sayO n txX)).2, y.kind = 6 → y.keys.length = 2 := fun y hy h6 => by
    unfold byV at hy
    rw [if_pos hr] at hy
    rcases mem_put hy with hy | rfl
    · exact a6 y hy h6
    · simp [byT] at h6
  have hmv : msgV itD t1 (sayO n []) c s = (nameK (putN (byV itD (nextV t1 c).2 (sayO n txX)).2 (sealT (nextV t1 c).1.1 (byV itD (nextV t1 c).2 (sayO n txX)).1 s)), putT (byV itD (nextV t1 c).2 (sayO n txX)).2 (sealT (nextV t1 c).1.1 (byV itD (nextV t1 c).2 (sayO n txX)).1 s)) := rfl
  rw [hmv] at hm
  clear hmv
  rw [e1] at hm
  simp only at hm
  generalize byV itD t1 (sayO n txX) = bv at *
  obtain ⟨bk, t2⟩ := bv
  simp only at b1 b2 b4 b5 b6 hm
  have hso := sealT_ok (s := s) a1.len b1.len (by omega)
  have c1 := Nm.put t2 (sealT a bk s)
  have c2 := put_pre t2 (sealT a bk s)
  have c4 := b4.put hso ⟨by simp [sealT], by simp [sealT]⟩ (by omega)
  have c5 := putT_len t2 (sealT a bk s)
  have c6 : ∀ y ∈ putT t2 (sealT a bk s), y.kind = 6 → y.keys.length = 2 := fun y hy h6 => by
    rcases mem_put hy with hy | rfl
    · exact b6 y hy h6
    · simp [sealT]
  rw [Prod.mk.injEq] at hm
  obtain ⟨hm1, hm2⟩ := hm
  rw [hm1, hm2] at c1
  rw [hm2] at c2 c4 c5 c6
  have hF := (h.mono ((a3.trans b2).trans c2) c6).next c4 ((a1.mono b2).mono c2) ((a2.mono b2).mono c2)
  exact ⟨a4, by omega, by rw [e1], a1.len, a2.len, c1.len, c4, by omega, hF, fun K hK => hF.hides c4 hso (by simp [sealT]) c1 hK⟩
end Go.Cab

/- What follows: there is always an end to it; upon blocks that change. -/
-- TEXTS
-- KIT
namespace Go.Cab
open Classical

/-- Follow, by a caller with blocks of its own behind the table's. -/
theorem follow_at {H : List (Option Blk)} {t : Tb} {V0 : Value} {ts0 ts : List Term} (hh : TbOk H t V0 ts0) (hts : TsOk ts) (V : Value) {L : List (Option Blk)} {seen : List (List UInt8)} (hsl : seen.length < 100000) (h32 : ∀ k ∈ seen, k.length = 32) {c sl : Nat} {Vc : Value} (hc : (tbOf H t V ts ++ L)[c]? = some (some (.row 29 Vc 32 (klA seen) sl))) :
    XCall Go.Proofs.Tryd.prog 13 [.ptr t.b t.l 0 [], .own c Vc] (tbOf H t V ts ++ L) (FolK (tbOf H t V ts ++ L) ts seen) :=
  follow_own (hh.at V ts L) hts hsl h32 hc
theorem follow_sl_at {H : List (Option Blk)} {t : Tb} {V0 : Value} {ts0 ts : List Term} (hh : TbOk H t V0 ts0) (hts : TsOk ts) (V : Value) (L : List (Option Blk)) {seen : List (List UInt8)} (hsl : seen.length < 100000) (h32 : ∀ k ∈ seen, k.length = 32) :
    XCall Go.Proofs.Tryd.prog 13 [.ptr t.b t.l 0 [], .sl 32 (klA seen)] (tbOf H t V ts ++ L) (FolK (tbOf H t V ts ++ L) ts seen) :=
  follow_sl (hh.at V ts L) hts hsl h32
theorem FolK.ex {H : List (Option Blk)} {ts : List Term} {seen : List (List UInt8)} (h : ∃ K, FolOk ts seen K) (hn : ts.length < 100000) : ∃ r H', FolK H ts seen r H' := by
  obtain ⟨K, hK⟩ := h
  refine ⟨_, _, K, ⟨H.length, (0, 0), H.length + 1, H.length + 2, (0, 0)⟩, .slice none 0 0, [some (fbk ⟨H.length, (0, 0), H.length + 1, H.length + 2, (0, 0)⟩ (.slice none 0 0)), some (frk (.slice none 0 0) K), some (.box (0, 0) 2 (.st [1, 1] [.view 0 (0, 0) 0 [] 3 0 ts.length ts.length, .any]))], hK, rfl, rfl, fun G hG => ?_⟩
  have e := fun k => cat1 H.length G [some (fbk ⟨H.length, (0, 0), H.length + 1, H.length + 2, (0, 0)⟩ (.slice none 0 0)), some (frk (.slice none 0 0) K), some (.box (0, 0) 2 (.st [1, 1] [.view 0 (0, 0) 0 [] 3 0 ts.length ts.length, .any]))] k hG
  refine ⟨?_, ?_, ⟨.view 0 (0, 0) 0 [] 3 0 ts.length ts.length, .any, ?_, .inr (.inl ⟨_, _, _, _, _, _, by rw [hK.len]⟩)⟩, by rw [hK.len]; exact hn⟩
  · have := e 0
    rw [Nat.add_zero] at this
    exact this.trans rfl
  · rw [e]; rfl
  · rw [e]; rfl
/-- There is always an end to it. -/
theorem Fol_ex (ts : List Term) (seen : List (List UInt8)) : ∃ K, FolOk ts seen K := by
  have key : ∀ (n : Nat) (k : List Bool), k.count false ≤ n → Rounds ts (learnS (List.replicate ts.length false) seen) k → ∃ K, FolOk ts seen K := by
    intro n
    induction n with
    | zero =>
      intro k hk hR
      have hm := MoreOk.roundG ts ts 0 k false
      obtain ⟨_, m2, m3⟩ := hm
      cases hb : (roundG ts ts 0 k false).2 with
      | true => rcases m2 hb with h | h
                · cases h
                · omega
      | false => exact ⟨k, hR, Prod.ext (m3 hb).2 hb⟩
    | succ n ih =>
      intro k hk hR
      have hm := MoreOk.roundG ts ts 0 k false
      obtain ⟨_, m2, m3⟩ := hm
      cases hb : (roundG ts ts 0 k false).2 with
      | true => rcases m2 hb with h | h
                · cases h
                · exact ih (roundG ts ts 0 k false).1 (by omega) (.step _ _ hR)
      | false => exact ⟨k, hR, Prod.ext (m3 hb).2 hb⟩
  exact key _ _ (Nat.le_refl _) (.refl _)

theorem FolK.at {T M L' : List (Option Blk)} {N n m : Nat} {f : Fc} {Vk : Value} {K : List Bool} (h : ∀ G : List (Option Blk), G.length = m → FcOk (G ++ L') f Vk K) (hm : m = N + n) (hT : T.length = N) (hn : n ≤ M.length) (hd : M.drop n = L') : FcOk (T ++ M) f Vk K := by
  have := h (T ++ M.take n) (by rw [List.length_append, List.length_take, Nat.min_eq_left hn]; omega)
  rwa [List.append_assoc, ← hd, List.take_append_drop] at this
end Go.Cab

/- Chain's laws: ChainForgets walked. -/
-- TEXTS
-- KIT
namespace Go.Cab
open Go.RowKit
open Classical
def fb516 : AC := (.seq (.reg [⟨(.some 4), .none, (.alloc 32 (.arr 1 (List.replicate 32 (.lit (bn 0))))), [], .none⟩]) (.seq (.reg [⟨(.some 5), .none, (.alloc 32 (.arr 1 (List.replicate 32 (.lit (bn 0))))), [], .none⟩]) (.seq (.seq (.reg [⟨(.some 6), .none, (.mov (.tmp 1)), [], .none⟩, ⟨(.some 7), .none, (.len .true (.tmp 6)), [], .none⟩, ⟨(.some 8), .none, (.bin .neq (.tmp 7) (.const (jn 32))), [], .none⟩]) (.cond (.tmp 8) (.seq (.reg [⟨(.some 9), .none, (.mov (.tmp 0)), [], .none⟩, ⟨(.some 10), .none, (.mov (.tmp 1)), [], .none⟩, ⟨(.some 11), .none, (.bin .add (.const (tx [98, 111, 120])) (.tmp 10)), [], .none⟩, ⟨(.some 12), .none, (.icall 23 (.tmp 9) [(.tmp 11), (.const (.slice .none 0 0))]), [], .none⟩, ⟨.none, .none, (.store 32 (.tmp 4) (.tmp 12)), [], .none⟩]) .ret) .skip)) (.seq (.reg [⟨(.some 13), .none, (.rdp (.vslice 1 32 .false .false) [(.tmp 5)]), [], .none⟩, ⟨(.some 14), .none, (.mov (.tmp 1)), [], .none⟩, ⟨(.some 15), .none, (.ef (.copy 1) [(.tmp 13), (.tmp 14)]), [], .none⟩]) (.seq (.reg [⟨(.some 16), .none, (.load .true 32 (.tmp 5)), [], .none⟩, ⟨.none, .none, (.store 32 (.tmp 4) (.tmp 16)), [], .none⟩]) .ret)))))
def fc516 : FC := ⟨2, 17, [(.cell 4 .true 32)], fb516⟩
theorem fc516_eq : compF Go.Proofs.Tryd.prog 14 = some fc516 := by kernel_rfl
def fb501 : AC := (.seq (.reg [⟨(.some 2), .none, (.mov (.const (.bool .false))), [], .none⟩]) (.seq (.seq (.reg [⟨(.some 14), .none, (.call 5 []), [], .none⟩, ⟨(.some 15), .none, (.un .not (.tmp 14)), [], .none⟩]) (.cond (.tmp 15) (.seq (.reg [⟨(.some 2), .none, (.mov (.const (.bool .false))), [], .none⟩]) .ret) .skip)) (.seq (.reg [⟨(.some 16), .none, (.xc (.dir 6) [] [] []), [], .none⟩, ⟨(.some 3), .none, (.alloc 1 (.st [1] [(.lit (.pointer .none))])), [], .none⟩, ⟨.none, .none, (.store 1 (.tmp 3) (.tmp 16)), [], .none⟩]) (.seq (.reg [⟨(.some 17), .none, (.faddr 0 0 (.tmp 3)), [], .none⟩, ⟨(.some 18), .none, (.load .false 1 (.tmp 17)), [], .none⟩, ⟨(.some 19), .none, (.icall 8 (.tmp 18) [(.const (tx [99]))]), [], .none⟩, ⟨(.some 20), .none, (.call 7 [(.tmp 19)]), [], .none⟩, ⟨(.some 4), .none, (.alloc 529 (.st [528, 1] [(.arr 66 (List.replicate 8 (.st [1, 1, 32, 32] [(.lit (.bool .false)), (.lit (.bool .false)), (.arr 1 (List.replicate 32 (.lit (bn 0)))), (.arr 1 (List.replicate 32 (.lit (bn 0))))]))), (.lit (.slice .none 0 0))])), [], .none⟩, ⟨.none, .none, (.store 529 (.tmp 4) (.tmp 20)), [], .none⟩]) (.seq (.reg [⟨(.some 5), .none, (.mov (.const (.slice .none 0 0))), [], .none⟩]) (.seq (.seq (.reg [⟨(.some 6), .none, (.mov (.const (jn 0))), [], .none⟩]) (.block 0 (.loop (.seq (.seq (.reg [⟨(.some 21), .none, (.mov (.tmp 6)), [], .none⟩, ⟨(.some 22), .none, (.mov (.tmp 0)), [], .none⟩, ⟨(.some 23), .none, (.bin .rem (.tmp 22) (.const (bn 12))), [], .none⟩, ⟨(.some 24), .none, (.cvt .i64 (.tmp 23)), [], .none⟩, ⟨(.some 25), .none, (.bin .lss (.tmp 21) (.tmp 24)), [], .none⟩]) (.cond (.tmp 25) .skip (.exit 0))) (.seq (.block 1 (.seq (.reg [⟨(.some 29), .none, (.load .true 1 (.tmp 3)), [], .none⟩, ⟨(.some 30), .none, (.rdp (.mkifc 26) [(.tmp 29)]), [], .none⟩, ⟨(.some 31), .none, (.faddr 0 0 (.tmp 4)), [], .none⟩, ⟨(.some 32), .none, (.iaddrA 8 66 (.tmp 31) (.const (jn 1))), [], .none⟩, ⟨(.some 33), .none, (.faddr 34 3 (.tmp 32)), [], .none⟩, ⟨(.some 34), .none, (.load .true 32 (.tmp 33)), [], .none⟩, ⟨(.some 35), .none, (.bslice 32 (.arr 1 (List.replicate 32 (.lit (bn 0)))) 1 [(0, (.tmp 34))]), [], .none⟩, ⟨(.some 36), .none, (.xc (.dir 12) [(.tmp 30), (.const (tx [115, 97, 121])), (.tmp 35)] [] []), [], .none⟩, ⟨(.some 28), .none, (.mov (.tmp 36)), [], .none⟩, ⟨(.some 37), .none, (.ext (.tmp 28) 0), [], .none⟩, ⟨(.some 38), .none, (.ext (.tmp 28) 1), [], .none⟩, ⟨(.some 7), .none, (.alloc 32 (.arr 1 (List.replicate 32 (.lit (bn 0))))), [], .none⟩, ⟨(.some 8), .none, (.alloc 32 (.arr 1 (List.replicate 32 (.lit (bn 0))))), [], .none⟩, ⟨.none, .none, (.store 32 (.tmp 7) (.tmp 37)), [], .none⟩, ⟨.none, .none, (.store 32 (.tmp 8) (.tmp 38)), [], .none⟩]) (.seq (.reg [⟨(.some 39), .none, (.mov (.tmp 5)), [], .none⟩, ⟨(.some 40), .none, (.load .true 32 (.tmp 7)), [], .none⟩, ⟨(.some 41), .none, (.faddr 0 0 (.tmp 4)), [], .none⟩, ⟨(.some 42), .none, (.iaddrA 8 66 (.tmp 41) (.const (jn 1))), [], .none⟩, ⟨(.some 43), .none, (.faddr 34 3 (.tmp 42)), [], .none⟩, ⟨(.some 44), .none, (.load .true 32 (.tmp 43)), [], .none⟩, ⟨(.some 45), .none, (.bslice 32 (.arr 1 (List.replicate 32 (.lit (bn 0)))) 2 [(0, (.tmp 40)), (1, (.tmp 44))]), [], .none⟩, ⟨(.some 46), .none, (.append 29 32 32 (.tmp 39) (.tmp 45)), [], .none⟩, ⟨(.some 5), .none, (.mov (.tmp 46)), [], .none⟩]) (.seq (.reg [⟨(.some 48), .none, (.load .true 1 (.tmp 3)), [9], (.some 3)⟩, ⟨(.some 49), .none, (.rdp (.mkifc 26) [(.tmp 48)]), [], .none⟩, ⟨(.some 50), .none, (.load .true 529 (.tmp 4)), [9], .none⟩, ⟨(.some 51), .none, (.mov (.tmp 6)), [], .none⟩, ⟨(.some 52), .none, (.bin .add (.tmp 51) (.const (jn 1))), [], .none⟩, ⟨(.some 53), .none, (.cvt .u32 (.tmp 52)), [], .none⟩, ⟨(.some 54), .none, (.callv 9 [(.tmp 53)]), [9], .none⟩, ⟨(.some 55), .none, (.xc (.dir 10) [(.tmp 49), (.tmp 50), (.tmp 54), (.const (tx [116, 101, 120, 116]))] [] [9]), [], .none⟩, ⟨(.some 47), .none, (.mov (.tmp 55)), [], .none⟩, ⟨(.some 56), .none, (.ext (.tmp 47) 0), [], .none⟩, ⟨(.some 57), .none, (.ext (.tmp 47) 1), [], .none⟩, ⟨(.some 58), .none, (.ext (.tmp 47) 2), [], .none⟩, ⟨(.some 9), .none, (.alloc 529 (.st [528, 1] [(.arr 66 (List.replicate 8 (.st [1, 1, 32, 32] [(.lit (.bool .false)), (.lit (.bool .false)), (.arr 1 (List.replicate 32 (.lit (bn 0)))), (.arr 1 (List.replicate 32 (.lit (bn 0))))]))), (.lit (.slice .none 0 0))])), [], .none⟩, ⟨.none, .none, (.store 529 (.tmp 9) (.tmp 56)), [], .none⟩, ⟨(.some 10), .none, (.mov (.tmp 57)), [], .none⟩, ⟨(.some 11), .none, (.mov (.tmp 58)), [], .none⟩]) (.seq (.seq (.reg [⟨(.some 59), .none, (.mov (.tmp 11)), [], .none⟩, ⟨(.some 60), .none, (.bin .neq (.tmp 59) (.const (jn 0))), [], .none⟩]) (.cond (.tmp 60) (.seq (.reg [⟨(.some 2), .none, (.mov (.const (.bool .false))), [], .none⟩]) .ret) .skip)) (.seq (.reg [⟨(.some 61), .none, (.load .true 529 (.tmp 9)), [], .none⟩, ⟨.none, .none, (.store 529 (.tmp 4) (.tmp 61)), [], .none⟩]) (.seq (.reg [⟨(.some 62), .none, (.faddr 0 0 (.tmp 3)), [], .none⟩, ⟨(.some 63), .none, (.load .false 1 (.tmp 62)), [], (.some 3)⟩, ⟨(.some 64), .none, (.faddr 0 0 (.tmp 4)), [], .none⟩, ⟨(.some 65), .none, (.iaddrA 8 66 (.tmp 64) (.const (jn 1))), [], .none⟩, ⟨(.some 66), .none, (.faddr 34 3 (.tmp 65)), [], .none⟩, ⟨(.some 67), .none, (.load .true 32 (.tmp 66)), [], (.some 4)⟩, ⟨(.some 68), .none, (.faddr 0 0 (.tmp 4)), [], .none⟩, ⟨(.some 69), .none, (.iaddrA 8 66 (.tmp 68) (.const (jn 1))), [], .none⟩, ⟨(.some 70), .none, (.faddr 2 2 (.tmp 69)), [], .none⟩, ⟨(.some 71), .none, (.load .true 32 (.tmp 70)), [], (.some 4)⟩, ⟨(.some 72), .none, (.faddr 0 0 (.tmp 3)), [], .none⟩, ⟨(.some 73), .none, (.load .false 1 (.tmp 72)), [], (.some 3)⟩, ⟨(.some 74), .none, (.mov (.tmp 10)), [], .none⟩, ⟨(.some 75), .none, (.xc (.dir 14) [(.tmp 73), (.tmp 74)] [3, 4, 4] []), [], .none⟩, ⟨(.some 76), .none, (.bslice 32 (.arr 1 (List.replicate 32 (.lit (bn 0)))) 3 [(0, (.tmp 67)), (1, (.tmp 71)), (2, (.tmp 75))]), [], .none⟩, ⟨(.some 77), .none, (.xc (.dir 13) [(.tmp 63), (.tmp 76)] [] []), [], .none⟩, ⟨(.some 12), .none, (.mov (.tmp 77)), [], .none⟩]) (.seq (.reg [⟨(.some 13), .none, (.mov (.const (jn 0))), [], .none⟩]) (.block 2 (.loop (.seq (.seq (.reg [⟨(.some 78), .none, (.mov (.tmp 13)), [], .none⟩, ⟨(.some 79), .none, (.mov (.tmp 5)), [], .none⟩, ⟨(.some 80), .none, (.len .false (.tmp 79)), [], .none⟩, ⟨(.some 81), .none, (.bin .lss (.tmp 78) (.tmp 80)), [], .none⟩]) (.cond (.tmp 81) .skip (.exit 2))) (.seq (.block 3 (.seq (.reg [⟨(.some 84), .none, (.mov (.tmp 12)), [], .none⟩, ⟨(.some 85), .none, (.mov (.tmp 5)), [], .none⟩, ⟨(.some 86), .none, (.mov (.tmp 13)), [], .none⟩, ⟨(.some 87), .none, (.iaddrS 32 (.tmp 85) (.tmp 86)), [], .none⟩, ⟨(.some 88), .none, (.load .true 32 (.tmp 87)), [], .none⟩, ⟨(.some 89), .none, (.xc .val [(.tmp 84), (.tmp 88)] [] []), [], .none⟩]) (.cond (.tmp 89) (.seq (.reg [⟨(.some 2), .none, (.mov (.const (.bool .false))), [], .none⟩]) .ret) .skip))) (.reg [⟨(.some 82), .none, (.mov (.tmp 13)), [], .none⟩, ⟨(.some 83), .none, (.bin .add (.tmp 82) (.const (jn 1))), [], .none⟩, ⟨(.some 13), .none, (.mov (.tmp 83)), [], .none⟩]))))))))))))) (.reg [⟨(.some 26), .none, (.mov (.tmp 6)), [], .none⟩, ⟨(.some 27), .none, (.bin .add (.tmp 26) (.const (jn 1))), [], .none⟩, ⟨(.some 6), .none, (.mov (.tmp 27)), [], .none⟩])))))) (.seq (.reg [⟨(.some 90), .none, (.call 5 []), [], .none⟩, ⟨(.some 2), .none, (.mov (.tmp 90)), [], .none⟩]) .ret)))))))
def fc501 : FC := ⟨1, 91, [(.tmp 2)], fb501⟩
theorem fc501_eq : compF Go.Proofs.Tryd.prog 4 = some fc501 := by kernel_rfl

theorem tgt_mark (b : Nat) (l : Nat × Nat) (x : AV) : tgtA Go.Proofs.Tryd.prog (.dir 14) [.ptr b l 0 [], x] = some (14, [.ptr b l 0 [], x]) := by kernel_rfl
theorem tgt_follow (b : Nat) (l : Nat × Nat) (x : AV) : tgtA Go.Proofs.Tryd.prog (.dir 13) [.ptr b l 0 [], x] = some (13, [.ptr b l 0 [], x]) := by kernel_rfl
set_option maxHeartbeats 8000000 in
theorem mark_call {H : List (Option Blk)} (b : Nat) (l : Nat × Nat) {m : List UInt8} (hl : m.length = 32) : XCall Go.Proofs.Tryd.prog 14 [.ptr b l 0 [], .lit (tx m)] H fun r H' => r = keyA m ∧ H' = H := by
  have h516 := fc516_eq
  refine XCall.le ?_
  refine XCall.of h516 rfl ?_; show AC.wp _ fb516 ⟨H.length, [.ptr b l 0 [], .lit (tx m)] ++ List.replicate (17 - 2) .any, H ++ List.replicate 17 none⟩ (fun x s => match x with | .exit _ => False | _ => ∃ s1, Le s s1 ∧ FinX [(.cell 4 .true 32)] s1 _); unfold fb516
  generalize hN : H.length = N at *
  have p1 : ∀ L k, (H ++ L)[N + k]? = L[k]? := fun L k => cat1 N H L k hN
  have p2 : ∀ L k x, (H ++ L).set (N + k) x = H ++ L.set k x := fun L k x => cat2 N H L k x hN
  refine wp_sg (areg_al' zk_eq.symm fun l4 => areg_end (by simp [push_cast, p1, p2]; exact rfl) ?_)
  refine wp_sg (areg_al' zk_eq.symm fun l5 => areg_end (by simp [push_cast, p1, p2]; exact rfl) ?_)
  refine wp_seq' (wp_sr (by simp [push_cast, hl]; exact rfl) (wp_cond_f rfl (wp_skip' ?_)))
  refine wp_sg ?_
  refine areg_run 2 (by simp [push_cast]; exact rfl) ?_
  refine areg_cpk (src := m) (k' := m) rfl (by simp only [AS.blk, p1]; rfl) (listB_tx _ _) (by simp [zk_len]) (by omega) (by simp [List.drop_eq_nil_of_le, hl, zk_len]) (areg_nil ?_)
  refine wp_sr (by simp [push_cast, p1, p2, hl]; exact rfl) (wp_ret' ?_)
  exact ⟨_, Le.refl _, [], _, ⟨by simp [AS.seals, RVals, RVal, AS.ev, AS.peek, AS.blk, p1, Blk.loc, Blk.cont, Blk.n, AV.nav, AV.isAgg, AV.isTup, AS.coe]; rfl, by simp [keyA]⟩, keyA m, H, RelLe.refl _, by simp [keyA], HpLe.trim _ _, rfl, rfl⟩
theorem mark_k {H : List (Option Blk)} {t : Tb} {ts : List Term} {m : List UInt8} (hl : m.length = 32) : KC Go.Proofs.Tryd.prog 14 [.ptr t.b t.l 0 [], .lit (tx m)] H t ts (keyA m) ts := fun V L =>
  XCall.mono (mark_call _ _ hl) fun r H' hr => ⟨hr.1, V, hr.2⟩

theorem cvt_8x (n : Nat) (h : n < 256) : cvtA .i64 (.lit (bn n)) = some (.lit (jn n)) := by
  simp only [cvtA, bn, wrap_i64 (Int.le_trans (by decide) (Int.natCast_nonneg n)) (by omega)]
  rfl
def cfH (H : List (Option Blk)) (t : Tb) (l3 l4 : Nat × Nat) (ws : List (List UInt8)) (c : List UInt8) (ts : List Term) (V Vw : Value) : List (Option Blk) :=
  tbOf H t V ts ++ ([none, none, none, some (.box l3 1 (freeS t.b t.l)), some (.box l4 529 (.st [528, 1] [.arr 66 (ratL c), .sl 65 []]))] ++ List.replicate 41 none ++ [some (.row 29 Vw 32 (klA ws) 0)] ++ List.replicate 44 none)
def cfS (N : Nat) (H : List (Option Blk)) (t : Tb) (n : Nat) (l3 l4 : Nat × Nat) (x : Nat × List (List UInt8) × List UInt8 × List Term × Value × Value) : AS :=
  ⟨N, [.lit (bn n), .any, .lit (.bool false), .ptr (N + 3) l3 0 [], .ptr (N + 4) l4 0 [], .own (N + 46) x.2.2.2.2.2, .lit (jn x.1)] ++ List.replicate 84 .any, cfH H t l3 l4 x.2.1 x.2.2.1 x.2.2.2.1 x.2.2.2.2.1 x.2.2.2.2.2⟩
def cfI (N : Nat) (H : List (Option Blk)) (t : Tb) (n : Nat) (l3 l4 : Nat × Nat) (x : Nat × List (List UInt8) × List UInt8 × List Term × Value × Value) (f : Fc) (L' : List (Option Blk)) (j : Nat) : AS :=
  ⟨N, [.lit (bn n), .any, .lit (.bool false), .ptr (N + 3) l3 0 [], .ptr (N + 4) l4 0 [], .own (N + 46) x.2.2.2.2.2, .lit (jn x.1), .any, .any, .any, .any, .any, cloH f.b f.l, .lit (jn j)] ++ List.replicate 77 .any, cfH H t l3 l4 x.2.1 x.2.2.1 x.2.2.2.1 x.2.2.2.2.1 x.2.2.2.2.2 ++ L'⟩

set_option maxHeartbeats 64000000 in
theorem chainForgets_call (n : Nat) (hn : n < 256) : PCall Go.Proofs.Tryd.prog 4 [.lit (bn n)] (.val (.lit (.bool true))) := by
  have h501 := fc501_eq
  have hc6 : callable Go.Proofs.Tryd.prog 6 = true := by kernel_rfl
  have al := calive_call
  have hm8 : cvtA .i64 (.lit (bn (n % 12))) = some (.lit (jn (n % 12))) := cvt_8x _ (by omega)
  refine PCall.of h501 rfl ?_; show AC.wp _ fb501 (AS.init [.lit (bn n)] 1 91) (fun x s => match x with | .exit _ => False | _ => Fin [(.tmp 2)] s _); unfold fb501 AS.init
  refine wp_sr (by simp [push_cast]; exact rfl) ?_
  refine wp_seq' (wp_seq' (wp_rg ?_))
  refine areg_ca (by simp [AS.ev, AS.coe, AS.put] <;> exact rfl) al ?_
  refine areg_end (by simp [push_cast]; exact rfl) ?_
  refine wp_cond_f rfl (wp_skip' ?_)
  refine wp_sgL ?_
  refine areg_run 0 (by simp [push_cast]; exact rfl) ?_
  refine areg_xq (us := []) rfl (by simp only [tgtA, tgtB, Option.bind_some, hc6, if_true]) (newfree_call _) ⟨_, _, (0, 0), 0, rfl, rfl⟩ (fun r hp' _ t' ht' => by cases ht') ?_
  rintro r H' ⟨l, rr, rfl, rfl⟩
  refine areg_run 0 (by simp [push_cast]; exact rfl) ?_
  refine areg_al' rfl fun l3 => areg_end (by simp [push_cast, freeS_sz, freeS_agg, freeS_tup]; exact rfl) ?_
  refine wp_kit (n := 91) (Lo := [none, none, none, some (.box l3 1 (freeS 91 l))] ++ List.replicate 87 none) (fun N t => [.lit (bn n), .any, .lit (.bool false), .ptr (N + 3) l3 0 []] ++ List.replicate 87 .any) (fun N t => [none, none, none, some (.box l3 1 (freeS t.b t.l))] ++ List.replicate 87 none) rfl ?_ ?_ fun N H t V hh hN => ?_
  · simp [leA, RelLe.refl', RelLe.ptr']
  · simp [leB, tbNew, BlkLe.freeS']
  have G1 : ∀ V' ts', (tbOf H t V' ts').length = N := fun V' ts' => by rw [tbOf_len, hN]
  have g1 : ∀ V' ts' L k, (tbOf H t V' ts' ++ L)[N + k]? = L[k]? := fun V' ts' L k => cat1 _ _ _ _ (G1 _ _)
  have g2 : ∀ V' ts' L k x, (tbOf H t V' ts' ++ L).set (N + k) x = tbOf H t V' ts' ++ L.set k x := fun V' ts' L k x => cat2 _ _ _ _ _ (G1 _ _)
  have d1 := drawT_ok (s := [99]) (by decide)
  have hdk := draw_k hh (ts := []) (s := [99]) (by simp) (by decide)
  have p1 := putT_len [] (drawT [99])
  have q1 := TsOk.nil'.draw (s := [99]) (by decide) (by simp)
  have nm1 := Nm.put [] (drawT [99])
  have hfg : Fg (putT [] (drawT [99])) [] (nameK (putN [] (drawT [99]))) := ⟨by simp, ⟨_, d1, nm1, .inl rfl⟩, by simp, fun y hy h6 => by
    rcases mem_put hy with hy | rfl
    · cases hy
    · simp [drawT] at h6⟩
  simp only [List.length_nil] at p1
  generalize nameK (putN [] (drawT [99])) = c at *
  generalize putT [] (drawT [99]) = ts1 at *
  have ck := known_call hfg.ch.len
  rw [known_eq] at ck
  refine wp_sg ?_
  refine areg_run 2 (by simp [push_cast, g1, freeS]; exact rfl) ?_
  refine areg_xc (vs := [.ptr t.b t.l 0 [], .lit (tx [99])]) rfl (hdk _ _) ⟨_, _, rfl, .slice none 0 0, rfl⟩ ?_
  rintro r H' ⟨rfl, V1, rfl⟩
  refine areg_ca (by simp [AS.ev, AS.coe, AS.put] <;> exact rfl) ck ?_
  refine areg_al' (z' := ks0) rfl fun l4 => areg_end (by simp [push_cast, g1, g2, ksA]; exact rfl) ?_
  refine wp_sr (by simp [push_cast]; exact rfl) ?_
  refine wp_seq' (wp_seq' (wp_r (by simp [push_cast]; exact rfl) ?_))
  refine wp_block' (wp_loop_m (cfS N H t n l3 l4) (fun x => n % 12 - x.1) (fun x => Fg x.2.2.2.1 x.2.1 x.2.2.1 ∧ TsOk x.2.2.2.1 ∧ x.1 ≤ n % 12 ∧ x.2.1.length = 2 * x.1 ∧ x.2.2.2.1.length ≤ 1 + 10 * x.1) (0, [], c, ts1, V1, .slice none 0 0) ?_ ⟨hfg, q1, by simp, by simp, by simp; omega⟩ ?_)
  · refine Le.trans (Le.nilRow (t := 5) (b := N + 46) rfl (by simp only [AS.blk, g1]; rfl) 29 32) (Le.mk rfl (by simp [cfS, leT]) ?_)
    simp only [g2, cfS, cfH]
    exact leH_app (leH_refl _) (by simp [leH, freeS, klA])
  clear hdk hfg q1 p1 nm1 ck
  clear c ts1 V1
  rintro ⟨i, ws, c, ts, V1, Vw⟩ ⟨hfg, hts, hi, hwl, hlen⟩
  simp only at hfg hts hi hwl hlen ⊢
  unfold cfS cfH
  simp only
  have hi12 : n % 12 < 12 := Nat.mod_lt _ (by omega)
  by_cases hlt : i < n % 12
  · have q1 : i + 1 < 9223372036854775808 := by omega
    have cs := say_call (n := i + 1) (by omega)
    have hcv : cvtA .u32 (.lit (jn (i + 1))) = some (.lit (wn (i + 1))) := by simp only [cvtA, jn, wrap_u32]; rw [Nat.mod_eq_of_lt (by omega)]; rfl
    obtain ⟨a, d, t1, hnx⟩ : ∃ a d t1, nextV ts c = ((a, d), t1) := ⟨_, _, _, rfl⟩
    obtain ⟨s, hs⟩ : ∃ s : List UInt8, s = [116, 101, 120, 116] := ⟨_, rfl⟩
    have hsl : s.length ≤ 64 := by rw [hs]; decide
    have htx : tx [116, 101, 120, 116] = tx s := by rw [hs]
    obtain ⟨m, us, hm⟩ : ∃ m us, msgV itD t1 (sayO (i + 1) []) c s = (m, us) := ⟨_, _, rfl⟩
    obtain ⟨w1, w2, w3, w4, w5, w6, w7, w8, w9, w10⟩ := forget_law hts (by omega) hfg (n := i + 1) (by omega) (by omega) hsl hnx hm
    have hc32 := hfg.ch.len
    have k0 := two_k hh (ts := ts) (by omega) (s := txSay) (by simp [txSay]) (ks := [c]) (by simp) (by simp [hc32])
    have k1 := cseal_k hh (ts := t1) (by omega) (n := i + 1) (by omega) (by omega) hc32 hsl (m := []) (by simp)
    have k2 := mark_k (H := H) (t := t) (ts := us) w6
    rw [show twoV ts txSay [c] = ((a, d), t1) from hnx] at k0
    rw [hm, w3] at k1
    simp only at k0 k1
    have hwl2 : (klA ws).length = 2 * i := by rw [klA_len, hwl]
    refine wp_seq' (wp_sr (by simp [push_cast, hm8, hlt]; exact rfl) ?_)
    refine wp_cond_t (by simp [AS.ev]) (wp_skip' ?_)
    refine wp_seq' (wp_block' (wp_sg ?_))
    refine areg_run 1 (by simp [push_cast, g1, freeS_sz, freeS_agg, freeS_tup]; exact rfl) ?_
    refine areg_rdp (us := [freeS t.b t.l]) rfl (mkifc_free _ _) ?_
    refine areg_run 4 (by simp [push_cast, g1, ratL, hc32]; exact rfl) ?_
    refine areg_bsl (k := 32) (els := klA [c]) (fill_ar rfl rfl rfl (by simp [AV.sz, AS.ev, AS.put, hc32, bl_len]) rfl) ?_
    refine areg_k [freeI t.b t.l, .lit (tx txSay), .sl 32 (klA [c])] hN rfl (tgt_two _ _ _) k0 (by simp) (by simp) fun V2 => ?_
    refine areg_run 3 (by simp [push_cast, g1]; exact rfl) ?_
    refine areg_al' zk_eq.symm fun l7 => areg_al' zk_eq.symm fun l8 => areg_end (by simp [push_cast, g1, g2, w4, w5]; exact rfl) ?_
    refine wp_sg ?_
    refine areg_run 6 (by simp [push_cast, g1, ratL, w4, hc32]; exact rfl) ?_
    refine areg_bsl (k := 32) (els := klA [a, c]) (fill_ar rfl rfl rfl (by simp [AV.sz, AS.ev, AS.put, w4, bl_len]) (fill_ar rfl rfl rfl (by simp [AV.sz, AS.ev, AS.put, hc32, bl_len]) rfl)) ?_
    refine areg_ap (b := N + 46) (V := Vw) (ys := klA [a, c]) rfl (by simp only [AS.blk, AS.put, g1]; rfl) (by simp [AS.ev, AS.put, AS.coe, klA, keyA]) (by rw [hwl2, klA_len]; simp [maxLen]; omega) (by rw [hwl2, klA_len]; simp; omega) (fun V3 => ?_)
    refine areg_end (by simp [push_cast, g2]; exact rfl) ?_
    have hk1 : klA ws ++ klA [a, c] = klA (ws ++ [a, c]) := by simp [klA]
    rw [hk1]
    have hws : (ws ++ [a, c]).length = 2 * (i + 1) := by simp [hwl]; omega
    have hw32 := w9.l32
    generalize ws ++ [a, c] = ws2 at *
    refine wp_sg ?_
    refine areg_run 1 (by simp [push_cast, g1, freeS_sz, freeS_agg, freeS_tup]; exact rfl) ?_
    refine areg_rdp (us := [freeS t.b t.l]) rfl (mkifc_free _ _) ?_
    refine areg_run 4 (by simp [push_cast, g1, q1, hcv]; exact rfl) ?_
    refine areg_cv (by simp [AS.ev, AS.coe, AS.put] <;> exact rfl) cs ?_
    rw [htx]
    refine areg_k [freeI t.b t.l, ksA (ratL c) [], opA (sayO (i + 1) []), .lit (tx s)] hN rfl (tgt_cseal _ _ _ _) k1 (by simp) (by simp [AS.ev, AV.place]) fun V4 => ?_
    refine areg_run 4 (by simp [push_cast]; exact rfl) ?_
    refine areg_al' (z' := ks0) rfl fun l9 => areg_end (by simp [push_cast, g1, g2, ksA]; exact rfl) ?_
    refine wp_seq' (wp_sr (by simp [push_cast]; exact rfl) ?_)
    refine wp_cond_f (by simp [AS.ev]) (wp_skip' ?_)
    refine wp_sg (areg_end (by simp [push_cast, g1, g2, zk_len]; exact rfl) ?_)
    refine wp_sg ?_
    refine areg_run 13 (by simp [push_cast, g1, freeS, ratL, w5, key2]; exact rfl) ?_
    refine areg_k [.ptr t.b t.l 0 [], .lit (tx m)] hN rfl (tgt_mark _ _ _) k2 (by simp) (by simp [AS.ev, AV.place]) fun V5 => ?_
    refine areg_bsl (k := 32) (els := klA [d, key2, m]) (fill_ar rfl rfl rfl (by simp [AV.sz, AS.ev, AS.put, w5, bl_len]) (fill_ar rfl rfl rfl (by simp [AV.sz, AS.ev, AS.put, key2, bl]) (fill_ar rfl rfl rfl (by simp [AV.sz, AS.ev, AS.put, w6, bl_len, keyA]) rfl))) ?_
    refine areg_xq (us := [.ptr t.b t.l 0 [], .sl 32 (klA [d, key2, m])]) rfl (tgt_follow _ _ _) (follow_sl_at hh w7 V5 _ (seen := [d, key2, m]) (by simp) (by simp [w5, w6, key2])) (FolK.ex (Fol_ex _ _) (by have := w7.len; omega)) (fun r hp' hK t' ht' => by cases ht') ?_
    rintro r H' ⟨K, f, Vk, L', hK, rfl, rfl, hFc⟩
    have hno := w10 K hK
    refine areg_end (by simp [push_cast]; exact rfl) ?_
    refine wp_sr (by simp [push_cast]; exact rfl) ?_
    have hcl : (cfH H t l3 l4 ws2 d us V5 V3).length = N + 91 := by simp [cfH, G1]
    have gw : (cfH H t l3 l4 ws2 d us V5 V3 ++ L')[N + 46]? = some (some (.row 29 V3 32 (klA ws2) 0)) := by
      rw [List.getElem?_append_left (by omega)]
      unfold cfH
      rw [g1]
      rfl
    have hfc := hFc (cfH H t l3 l4 ws2 d us V5 V3) (by rw [hcl]; simp [G1])
    refine wp_block' (wp_loop_m (cfI N H t n l3 l4 (i, ws2, d, us, V5, V3) f L') (fun j => ws2.length - j) (fun j => j ≤ ws2.length) 0 (Le.mk rfl (by simp [cfI, leT]) ?_) (by simp) ?_)
    · unfold cfI cfH
      simp only
      rw [List.append_assoc (tbOf H t V5 us)]
      refine leH_app (leH_refl _) ?_
      simp [leH, freeS, ratL, key2, keyA, leH_refl]
    intro j hj
    unfold cfI
    simp only
    have hkl : (klA ws2).length = ws2.length := klA_len _
    by_cases hjl : j < ws2.length
    · obtain ⟨u, hu⟩ : ∃ u, ws2[j]? = some u := ⟨_, List.getElem?_eq_getElem hjl⟩
      have hum := List.mem_of_getElem? hu
      have hu32 := hw32 u hum
      have hnu := hno u hum
      have j1 : (klA ws2)[j]? = some (keyA u) := by rw [klA_get, hu]; rfl
      have j2 : ∀ h, (klA ws2)[j]'h = keyA u := fun h => by rw [List.getElem?_eq_getElem h] at j1; exact Option.some.inj j1
      have j3 : j + 1 < 9223372036854775808 := by omega
      generalize klA ws2 = T at *
      refine wp_seq' (wp_sr (by simp [push_cast, gw, hkl, hjl]; exact rfl) ?_)
      refine wp_cond_t (by simp [AS.ev]) (wp_skip' ?_)
      refine wp_seq' (wp_block' (wp_sg ?_))
      refine areg_run 5 (by simp [push_cast, gw, hkl, hjl, j1, j2]; exact rfl) ?_
      refine areg_xq (us := [cloH f.b f.l, keyA u]) rfl (tgt_cloH _ _ _) (has_call hfc hu32) ⟨_, _, rfl, rfl⟩ (fun r hp' _ t' ht' => by cases ht') ?_
      rintro r H' ⟨rfl, rfl⟩
      rw [hnu]
      refine areg_end (by simp [push_cast]; exact rfl) ?_
      refine wp_cond_f rfl (wp_skip' ?_)
      refine wp_r (by simp [push_cast, j3]; exact rfl) ?_
      refine Exists.intro (j + 1) ⟨by omega, by omega, Le.mk rfl (by simp [cfI, leT]) (leH_refl _)⟩
    · refine wp_seq' (wp_sr (by simp [push_cast, gw, hkl, hjl]; exact rfl) ?_)
      refine wp_cond_f (by simp [AS.ev]) (wp_exit' (if_hit rfl ?_))
      refine wp_r (by simp [push_cast, q1]; exact rfl) ?_
      refine Exists.intro (i + 1, ws2, d, us, V5, V3) ⟨⟨w9, w7, by omega, hws, by simp only; omega⟩, by simp only; omega, Le.trans (Le.trim (A := cfH H t l3 l4 ws2 d us V5 V3) (R := L') rfl) (Le.mk rfl (by simp [cfS, leT]) (leH_refl _))⟩
  · refine wp_seq' (wp_sr (by simp [push_cast, hm8, hlt]; exact rfl) ?_)
    refine wp_cond_f (by simp [AS.ev]) (wp_exit' (if_hit rfl ?_))
    refine wp_sg ?_
    refine areg_ca (by simp [AS.ev, AS.coe, AS.put] <;> exact rfl) al ?_
    refine areg_end (by simp [push_cast]; exact rfl) (wp_ret' ?_)
    exact fin_tmp (by simp [RVal, AS.ev, AS.coe]) (by simp)
end Go.Cab

/- The row's arguments: lists of bytes, and its close. -/
namespace Go.Cab
open Go.ChangeShapes Go.WideShapes Go.RowKit Go.ChangeAt

section
variable {H : Type} {enc : TypeId × Value → H} {P : Program}

theorem post_below {f : Func} {s : ChangeSpec} {apart fresh handsOn again : Bool} {W W' : World} {args : Array Value} {v : Value} {ds : List (DataW H)} {before : List MemPlace}
    (hvs : s.vars = []) (hW : DataW.Whole enc P f.params.toList s.vars apart W args.toList ds [] before)
    (hb : Below W.heap.size W W')
    (hres : ∀ (b : Nat) (sp : Nat → Bool) (hd : Bool), DataW.TrodAll enc P W' b sp hd f.resultTypes.toList (v.resultList f.resultTypes.size) (s.fn H (ds ++ [])).results [])
    (hargs : ∀ sp : Nat → Bool, (∀ p ∈ before, sp p.block = true) → DataW.TrodAll enc P W' 0 sp true f.params.toList args.toList (s.fn H (ds ++ [])).args before)
    (hvars : ∀ sp : Nat → Bool, DataW.TrodVars enc P W' sp s.vars (s.fn H (ds ++ [])).vars [])
    (hok : ∀ (j : Nat) (t : TypeId) (r : Value), f.resultTypes[j]? = some t → (v.resultList f.resultTypes.size)[j]? = some r → Value.okWide P W' .any 0 t r) :
    s.post enc P f apart fresh handsOn again W args v W' := by
  have hlt : ∀ p ∈ before, p.block < W.heap.size := fun p hp => hW.lt p hp
  refine ⟨ds, [], before, [], before, [], hW, hres _ _ _, hargs _ (fun p hp => by simpa using hlt p hp), hvars _, hb.frame _, fun _ => ?_⟩
  obtain ⟨_, _, _, _, _, hz, hn⟩ := hW
  refine ⟨hok, _, _, ([] ++ before) ++ [], ⟨[] ++ before, [], trodAll_append (hargs _ (fun _ _ => rfl)) (hres _ _ _), hvars _, rfl, fun b o hp => ?_, fun ha => ?_⟩, fun p hp _ => ?_⟩
  · have hp' : MemPlace.cell b o ∈ before := by simpa using hp
    have h1 := hz b o hp'
    rw [hb.frozen (p := ⟨b, o, none⟩) (hlt _ hp')]
    exact h1
  · simpa using hn ha
  · simpa using hp
end
end Go.Cab

namespace Go.Cab
open Go.ChangeShapes Go.WideShapes Go.RowKit

section
variable {H : Type} {enc : TypeId × Value → H} {P : Program} {W : World} {base : Nat} {sp : Nat → Bool} {held : Bool}

theorem At.app {Imm : Nat → Nat → Prop} {w : World} {b o : Nat} {c d : List Value} (h : At Imm w b o c) (k : At Imm w b (o + c.length) d) : At Imm w b o (c ++ d) := by
  intro i v hv
  by_cases hi : i < c.length
  · rw [List.getElem?_append_left hi] at hv; exact h i v hv
  · rw [List.getElem?_append_right (by omega)] at hv
    have := k (i - c.length) v hv
    rwa [show o + c.length + (i - c.length) = o + i by omega] at this

/-- The cells that the row's reading met, and that are there. -/
def StOf (W : World) (ps : List MemPlace) (b o : Nat) : Prop := MemPlace.cell b o ∈ ps ∧ (W.cell? ⟨b, o, none⟩).isSome = true

/-- A list that the row lets in. 'G': what is told of each element. -/
theorem open_sl {t k : TypeId} {c : Nat} (ht : P.underlying t = some (.slice k)) (hc : P.cellsOf k = c) (G : AV → Prop)
    (hel : ∀ (n : Nat) (cs : List Value) (x : DataW H × List MemPlace), DataW.trod enc P W base sp held n k cs = some x → cs.length = c → ∃ v, G v ∧ R (StOf W x.2) W v cs ∧ ∀ y ∈ cs, sc y = true)
    {r : Reach} {b0 : Nat} {v : Value} (hval : Value.okWide P W r b0 t v) {d : DataW H} {ps : List MemPlace} (hd : DataW.Trod enc P W base sp held t v d ps) :
    ∃ vs : List AV, (∀ u ∈ vs, G u) ∧ Rel (StOf W ps) W (.sl c vs) v := by
  obtain ⟨fuel, hf⟩ := hd
  have hv : (∃ a len cap, v = .slice a len cap) := by
    cases v <;> simp [Value.okWide, Cell.okWide, Cell.ok, ht] at hval ⊢
  obtain ⟨a0, len0, cap0, rfl⟩ := hv
  have hcs : (Value.slice a0 len0 cap0).cells.toList = [.slice a0 len0 cap0] := rfl
  rw [hcs] at hf
  rcases Go.Deep.open_slice ht hf with ⟨h1, h2⟩ | ⟨a, len, cap, m, n, D, Pl, h1, _, hle, _, hm, h2, hall⟩
  · cases h1
    exact ⟨[], by simp, .inr ⟨_, .slnil c, rfl⟩⟩
  · cases h1
    have hspot : a.spot = none := by
      simp only [Value.okWide, Cell.okWide, Cell.ok, ht] at hval
      exact hval.2.2.2.1
    have hps : ps = MemPlace.row a (m * P.cellsOf k) ++ (List.range m).flatMap Pl := congrArg Prod.snd h2
    rw [hc] at hps hall
    have hlm : len0 ≤ m := by rw [hm]; split <;> omega
    -- from the tail on
    have key : ∀ q, q ≤ len0 → ∃ (vs : List AV) (cs : List Value), (∀ u ∈ vs, G u) ∧ vs.length = q ∧ cs.length = q * c ∧ R (StOf W ps) W (.arr c vs) cs ∧ At (StOf W ps) W a.block (a.off + (len0 - q) * c) cs := by
      intro q
      induction q with
      | zero => exact fun _ => ⟨[], [], by simp, rfl, by simp, .arr0 c, fun i v hv => by simp at hv⟩
      | succ q ih =>
        intro hq
        obtain ⟨vs, cs, g1, g2, g3, g4, g5⟩ := ih (by omega)
        have hi : len0 - (q + 1) < m := by omega
        obtain ⟨cs', k1, k2⟩ := hall (len0 - (q + 1)) hi
        obtain ⟨_, hl', hget⟩ := World.cells?_some k1
        obtain ⟨u, u1, u2, u3⟩ := hel n cs' _ k2 hl'
        refine ⟨u :: vs, cs' ++ cs, ?_, by simp [g2], by rw [List.length_append, hl', g3, Nat.succ_mul]; omega, .arr1 c u vs cs' cs (u2.mono (fun b o hb => ?_) (fun _ _ _ => rfl)) hl' u3 g4, At.app ?_ ?_⟩
        · intro x hx
          rcases List.mem_cons.1 hx with rfl | hx
          · exact u1
          · exact g1 x hx
        · rw [hps]
          exact ⟨List.mem_append_right _ (List.mem_flatMap.2 ⟨_, List.mem_range.2 hi, hb.1⟩), hb.2⟩
        · intro j y hy
          have hj : j < c := by rw [← hl']; exact (List.getElem?_eq_some_iff.1 hy).1
          have h3 := hget j hj
          rw [Go.Deep.add_add] at h3
          have e1 : a.add ((len0 - (q + 1)) * c + j) = ⟨a.block, a.off + (len0 - (q + 1)) * c + j, none⟩ := by
            unfold Addr.add
            split
            · rename_i h0
              obtain ⟨b, o, s⟩ := a
              simp only at hspot ⊢
              rw [hspot]; congr 1; omega
            · rw [Nat.add_assoc]
          rw [e1] at h3
          refine ⟨by rw [h3]; exact hy, ?_, by rw [h3, hy]; rfl⟩
          rw [hps]
          refine List.mem_append_left _ (MemPlace.mem_row.2 ⟨(len0 - (q + 1)) * c + j, ?_, by rw [Nat.add_assoc]⟩)
          have := Nat.mul_le_mul_right c (show len0 - (q + 1) + 1 ≤ m by omega)
          rw [Nat.succ_mul] at this
          omega
        · rw [hl']
          have e2 : a.off + (len0 - (q + 1)) * c + c = a.off + (len0 - q) * c := by
            have e3 : len0 - q = (len0 - (q + 1)) + 1 := by omega
            rw [e3, Nat.succ_mul]; omega
          rw [e2]
          exact g5
    obtain ⟨vs, cs, g1, g2, g3, g4, g5⟩ := key len0 (Nat.le_refl _)
    rw [Nat.sub_self, Nat.zero_mul, Nat.add_zero] at g5
    have ea : a = ⟨a.block, a.off, none⟩ := by obtain ⟨b, o, s⟩ := a; simp only at hspot; rw [hspot]
    refine ⟨vs, g1, .inr ⟨_, .sl c vs cs a.block a.off cap0 g4 g5 (by omega), ?_⟩⟩
    show Value.slice (some a) len0 cap0 = Value.slice (some ⟨a.block, a.off, none⟩) vs.length cap0
    rw [g2, ← ea]

theorem map_of_each {α β : Type} {f : α → β} : ∀ {l : List β}, (∀ u ∈ l, ∃ n, u = f n) → ∃ ks : List α, l = ks.map f
  | [], _ => ⟨[], rfl⟩
  | u :: l, h => by
    obtain ⟨n, rfl⟩ := h u (by simp)
    obtain ⟨ks, e⟩ := map_of_each (l := l) (fun x hx => h x (List.mem_cons_of_mem _ hx))
    exact ⟨n :: ks, by rw [e]; rfl⟩

/-- A list of bytes. -/
theorem open_bytes {t e : TypeId} (ht : P.underlying t = some (.slice e)) (he : P.underlying e = some (.int .u8)) (h1 : P.cellsOf e = 1)
    {r : Reach} {b0 : Nat} {v : Value} (hval : Value.okWide P W r b0 t v) {d : DataW H} {ps : List MemPlace} (hd : DataW.Trod enc P W base sp held t v d ps) :
    ∃ bs : List Nat, (∀ n ∈ bs, n < 256) ∧ Rel (StOf W ps) W (.sl 1 (bs.map fun n => .lit (bn n))) v := by
  obtain ⟨vs, g1, g2⟩ := open_sl ht h1 (fun u => ∃ n : {n : Nat // n < 256}, u = .lit (bn n.1)) (fun n cs x hx hl => by
    obtain ⟨a, rfl, _, wa⟩ := DataW.trod_int he hx
    simp [Lit.wf, IntKind.min, IntKind.max, IntKind.signed, IntKind.bits] at wa
    refine ⟨_, ⟨⟨a.toNat, by omega⟩, rfl⟩, ?_, fun y hy => by simp at hy; rw [hy]; rfl⟩
    have : Value.int .u8 a = bn a.toNat := by unfold bn; rw [Int.toNat_of_nonneg (by omega)]
    rw [this]
    exact .lit _ rfl) hval hd
  obtain ⟨ks, rfl⟩ := map_of_each (f := fun n : {n : Nat // n < 256} => AV.lit (bn n.1)) g1
  refine ⟨ks.map (·.1), fun n hn => ?_, by rw [List.map_map]; exact g2⟩
  obtain ⟨a, _, rfl⟩ := List.mem_map.1 hn
  exact a.2
end
theorem t5 : Go.Proofs.Tryd.prog.underlying 5 = some (.int .u8) := by kernel_rfl
theorem c5 : Go.Proofs.Tryd.prog.cellsOf 5 = 1 := by kernel_rfl
end Go.Cab

/- The row's condition: the library's table of powers of ten is laid. -/
namespace Go.Cab

def tabName : String := "internal/strconv.uint64pow10"
theorem tab_laid {P : Program} {l : List (String × DataW Unit)} {W : World} (hL : laidMetH P l W) (hl : (l.filter fun x => x.1 == tabName) = [(tabName, Lib.tabData .u64 Lib.pow10Tab)])
    {t e : TypeId} (hg : P.globalNamed tabName = some 1) (hty : (P.globals[1]?).map (·.type) = some t) (ht : P.underlying t = some (.array 20 e)) (he : P.underlying e = some (.int .u64)) (hce : P.cellsOf e = 1) (hct : P.cellsOf t = 20) : Lib.TabIs P W tabName .u64 Lib.pow10Tab := by
  have h := hL.filter (fun x => x.1 == tabName)
  rw [hl] at h
  exact Lib.tabIs_of_head hg hty ht he hce hct h
theorem tabOk_of {P : Program} {W : World} (hg : P.globalNamed tabName = some 1) (h : Lib.TabIs P W tabName .u64 Lib.pow10Tab) : TabOk [] W := by
  intro x hx
  simp only [laidTabs, List.mem_singleton] at hx
  subst hx
  refine ⟨?_, fun r hr => by cases hr⟩
  unfold Lib.TabIs World.var? at h
  rw [hg] at h
  simp only [Option.bind_some] at h
  split at h
  · rename_i cs t fr hc
    cases h
    exact ⟨t, fr, hc⟩
  · cases h
theorem tabOk_laid {l : List (String × DataW Unit)} {W : World} (hL : laidMetH Go.Proofs.Tryd.prog l W) (hl : (l.filter fun x => x.1 == tabName) = [(tabName, Lib.tabData .u64 Lib.pow10Tab)]) : TabOk [] W :=
  tabOk_of (by kernel_rfl) (tab_laid (t := 125) (e := 118) hL hl (by kernel_rfl) (by kernel_rfl) (by kernel_rfl) (by kernel_rfl) (by kernel_rfl) (by kernel_rfl))
end Go.Cab

/- The row's arguments: lists of texts. -/
namespace Go.Cab
open Go.ChangeShapes Go.WideShapes Go.RowKit Go.ChangeAt

section
variable {H : Type} {enc : TypeId × Value → H} {P : Program} {W : World} {base : Nat} {sp : Nat → Bool} {held : Bool}

/-- A list of texts. -/
theorem open_texts {t e : TypeId} (ht : P.underlying t = some (.slice e)) (he : P.underlying e = some .string) (h1 : P.cellsOf e = 1)
    {r : Reach} {b0 : Nat} {v : Value} (hval : Value.okWide P W r b0 t v) {d : DataW H} {ps : List MemPlace} (hd : DataW.Trod enc P W base sp held t v d ps) :
    ∃ bs : List (List UInt8), bs.length < 9223372036854775808 ∧ (∀ s ∈ bs, s.length < 9223372036854775808) ∧ Rel (StOf W ps) W (.sl 1 (bs.map fun s => .lit (tx s))) v := by
  obtain ⟨vs, g1, g2⟩ := open_sl ht h1 (fun u => ∃ n : {n : List UInt8 // n.length < 9223372036854775808}, u = .lit (tx n.1)) (fun n cs x hx hl => by
    obtain ⟨s, hc, hy, hs⟩ := DataW.trod_string he hx
    subst hc
    refine ⟨_, ⟨⟨s.data.toList, ?_⟩, rfl⟩, .lit _ rfl, fun y hy => by simp at hy; rw [hy]; rfl⟩
    have e : s.data.toList.length = s.size := by rw [Array.length_toList]; rfl
    rw [e]
    unfold maxLen at hs
    omega) hval hd
  obtain ⟨ks, rfl⟩ := map_of_each (f := fun n : {n : List UInt8 // n.length < 9223372036854775808} => AV.lit (tx n.1)) g1
  refine ⟨ks.map (·.1), ?_, fun n hn => ?_, by rw [List.map_map]; exact g2⟩
  · rcases R.slLen g2 with ⟨_, h⟩ | ⟨b, off, cap, cs, hv, hl, _⟩
    · rw [List.length_map, List.map_eq_nil_iff.1 h]; simp
    · subst hv
      simp only [Value.okWide, Cell.okWide, Cell.ok, ht] at hval
      obtain ⟨h2, h3, _⟩ := hval
      rw [List.length_map] at h2 ⊢
      simp [IntKind.max, IntKind.signed, IntKind.bits] at h3
      omega
  · obtain ⟨a, _, rfl⟩ := List.mem_map.1 hn
    exact a.2
end
end Go.Cab

/- ChainForgets: for every input the call returns true, and each argument reads afterwards as it read before. No condition beyond the row's own. -/
namespace Go.Proofs.YtbioecfkifbkbaaDoor
open Go.ChangeShapes Go.WideShapes Go.ChangeAt Go.RowKit

theorem Tryd.laidOut : laidOutB Tryd.prog = true := by kernel_rfl
theorem Tryd.own : ownKnob Tryd.prog.godebug = none := by kernel_rfl
/-- A world that meets the condition: the settled one, the three tables laid. -/
def tab32 : Array Value := #[0, 1, 28, 2, 29, 14, 24, 3, 30, 22, 20, 15, 25, 17, 4, 8, 31, 27, 13, 23, 21, 19, 16, 7, 26, 12, 18, 6, 11, 5, 10, 9].map fun n => .int .u8 n
def tab64 : Array Value := #[0, 1, 56, 2, 57, 49, 28, 3, 61, 58, 42, 50, 38, 29, 17, 4, 62, 47, 59, 36, 45, 43, 51, 22, 53, 39, 33, 30, 24, 18, 12, 5, 63, 55, 48, 27, 60, 41, 37, 16, 46, 35, 44, 21, 52, 32, 23, 11, 54, 26, 40, 15, 34, 20, 31, 10, 25, 14, 19, 9, 13, 8, 7, 6].map fun n => .int .u8 n
def tab10 : Array Value := #[1, 10, 100, 1000, 10000, 100000, 1000000, 10000000, 100000000, 1000000000, 10000000000, 100000000000, 1000000000000, 10000000000000, 100000000000000, 1000000000000000, 10000000000000000, 100000000000000000, 1000000000000000000, 10000000000000000000].map fun n => .int .u64 n
noncomputable def laidWorld (os : Os) : World :=
  let w0 := World.holding Tryd.prog os ⟨#[], #[], []⟩
  { w0 with heap := ((w0.heap.modify 1 fun
      | .cells _ t frozen => .cells tab10 t frozen
      | o => o).modify 2 fun
      | .cells _ t frozen => .cells tab32 t frozen
      | o => o).modify 3 fun
      | .cells _ t frozen => .cells tab64 t frozen
      | o => o }
theorem laidWorld_met (os : Os) (args : Array Value) : laidMetH Tryd.prog Rows.chainForgetsRow.laid ((laidWorld os).forCall (fun _ _ => 0) ⟨#[], args, []⟩).memory :=
  laidMetH_of_parts (laidMet_of_run' 80 (by kernel_rfl) (by kernel_rfl)) (by kernel_rfl)

set_option maxRecDepth 100000 in
theorem chainForgets_lifted (os : Os) (started : os.Started) (H : Type) (enc : TypeId × Value → H) :
    ReturnsInHanded {} Tryd.checked os 4 .any (fun w args => (Rows.chainForgetsSpec.pre enc Tryd.prog Tryd.f4 Rows.chainForgetsRow.domain false w args ∧ laidMetH Tryd.prog Rows.chainForgetsRow.laid w) ∧ sizedMet enc Tryd.prog Tryd.f4 (OpenSpec.ofChange Rows.chainForgetsSpec) false w args)
      (Rows.chainForgetsSpec.post enc Tryd.prog Tryd.f4 false true false false) := by
  refine returnsInHanded_of_change_and (C := Tryd.checked) (X := fun w _ => laidMetH Tryd.prog Rows.chainForgetsRow.laid w) (fun _ _ _ hh h => h.of_heap hh) Tryd.own started (by kernel_rfl) Tryd.func4
    (ChangeSpec.witness_at (enc := enc) (C := Tryd.checked) (os := os) (X := fun w _ => laidMetH Tryd.prog Rows.chainForgetsRow.laid w) false (laidWorld os) #[.int .u8 0] 8 rfl (by kernel_rfl) (by kernel_rfl) (by kernel_rfl) (by kernel_rfl) (by kernel_rfl) (laidWorld_met os _)) ?_
  intro W base args ds gs before hval0 hW _ _ hLaid _
  have htab := Go.Cab.tabOk_laid hLaid (by kernel_rfl)
  have hval : ∀ (j : Nat) t v, Tryd.f4.params[j]? = some t → args[j]? = some v → Value.okWide Tryd.prog W .any base t v := hval0
  have hW' := hW
  obtain ⟨p, q, hA0, hV, rfl, hfz, hnd⟩ := hW
  have hA : DataW.TrodAll enc Tryd.prog W 0 (fun _ => true) true Tryd.f4.params.toList args.toList ds p := hA0
  rw [Tryd.params4] at hA hval
  obtain ⟨v0, d0, rfl, rfl, h0⟩ := trodAll_one hA
  obtain ⟨rfl, rfl⟩ := trodVars_none hV
  obtain ⟨b0, rfl, rfl, rfl, wb0⟩ := open_int Tryd.underlying5 (hval 0 5 v0 rfl rfl) h0
  have wb0' : 0 ≤ b0 ∧ b0 < 256 := by
    simp [Lit.wf, IntKind.min, IntKind.max, IntKind.signed, IntKind.bits] at wb0
    omega
  obtain ⟨n0, rfl⟩ := Int.eq_ofNat_of_zero_le wb0'.1
  have hc := Go.Cab.chainForgets_call n0 (by omega) W (fun _ _ => False) [_] ⟨(fun _ _ h => h.elim), htab⟩ ⟨Go.Cab.Rel.mkLit rfl, trivial⟩
  refine Calls.mono hc fun e W' ⟨V, Imm, he, hfr, _, hr⟩ => ?_
  have hV' := (hr.1.lit).1
  subst hV'
  have hb := hfr.below
  have hlt : ∀ x ∈ ([] : List MemPlace), x.block < W.heap.size := fun x hx => hW'.lt x (by simpa using hx)
  refine ⟨_, he, Go.Cab.post_below rfl hW' hb (fun _ _ _ => trodAll_mk1 (shut_bool Tryd.underlying4 true)) (fun sp hsp => ?_) (fun _ => rfl) (ok_one (by kernel_rfl) rfl (okWide_bool_mk Tryd.underlying4 true))⟩
  have s0 := shut_int (enc := enc) (w := W') (base := 0) (spare := sp) (held := true) Tryd.underlying5 wb0
  have s := trodAll_mk1 s0
  simp only [List.append_nil, List.append_assoc] at s ⊢
  exact s

theorem chainForgets_holds : Rows.ChainForgetsSaid :=
  OpenClaim.holds_of_wide 4 Tryd.f4 rfl rfl rfl rfl rfl rfl rfl ⟨rfl, rfl, rfl, rfl, rfl⟩ rfl rfl rfl rfl rfl (by kernel_rfl) Tryd.func4 (by kernel_rfl)
    (of_decide_eq_true (by kernel_rfl)) (by unfold Func.isWrapper; first | (rw [if_pos (by decide +kernel)]; kernel_rfl) | (rw [if_neg (by decide +kernel)]; exact ⟨rfl, rfl⟩))
    (fun os started H enc _ => chainForgets_lifted os started H enc)
end Go.Proofs.YtbioecfkifbkbaaDoor
