/- Part 10 of what the proof stands on: G25, G26, S1, S2, H5, H6, S3, S4, S5. -/
import Derived.Test.YtihiiojkllaknaaDoorCab09
import Derived.Test.YtihiiojkllaknaaDoorCab08
set_option linter.unusedSimpArgs false
set_option linter.unnecessarySimpa false
set_option linter.unusedVariables false
set_option linter.unusedSectionVars false
/- What follows: Follow. -/
-- TEXTS
-- KIT
namespace Go.Cab
open Classical
def fb418 : AC := (.seq (.reg [⟨(.some 4), .none, (.mov (.const .nilFunc)), [], .none⟩]) (.seq (.reg [⟨(.some 9), .none, (.mov (.tmp 0)), [], .none⟩, ⟨(.some 10), .none, (.mov (.tmp 0)), [], .none⟩, ⟨(.some 11), .none, (.nilc (.tmp 10)), [], .none⟩, ⟨(.some 12), .none, (.faddr 0 0 (.tmp 11)), [], .none⟩, ⟨(.some 13), .none, (.load .false 1 (.tmp 12)), [], .none⟩, ⟨(.some 14), .none, (.len .false (.tmp 13)), [], .none⟩, ⟨(.some 15), .none, (.mkslice 4 1 1 (.lit (.bool .false)) (.tmp 14) (.tmp 14)), [], .none⟩, ⟨(.some 16), .none, (.build (.st [1, 1] [(.lit (.pointer .none)), (.lit (.slice .none 0 0))]) [(0, (.tmp 9)), (1, (.tmp 15))]), [], .none⟩, ⟨(.some 17), .none, (.box 2 (.tmp 16)), [], .none⟩, ⟨(.some 5), .none, (.mov (.tmp 17)), [], .none⟩]) (.seq (.seq (.reg [⟨(.some 18), .none, (.mov (.tmp 1)), [], .none⟩, ⟨(.some 19), .none, (.len .false (.tmp 18)), [], .none⟩, ⟨(.some 20), .none, (.mov (.const (jn 0))), [], .none⟩]) (.block 0 (.loop (.seq (.reg [⟨(.some 21), .none, (.bin .lss (.tmp 20) (.tmp 19)), [], .none⟩]) (.seq (.cond (.tmp 21) .skip (.exit 0)) (.seq (.block 1 (.seq (.reg [⟨(.some 22), .none, (.iaddrS 32 (.tmp 18) (.tmp 20)), [], .none⟩, ⟨(.some 23), .none, (.load .true 32 (.tmp 22)), [], .none⟩, ⟨(.some 7), .none, (.alloc 32 (.arr 1 (List.replicate 32 (.lit (bn 0))))), [], .none⟩, ⟨.none, .none, (.store 32 (.tmp 7) (.tmp 23)), [], .none⟩]) (.reg [⟨(.some 24), .none, (.mov (.tmp 5)), [], .none⟩, ⟨(.some 25), .none, (.load .true 32 (.tmp 7)), [], .none⟩, ⟨(.some 26), .none, (.icall 23 (.tmp 24) [(.tmp 25)]), [], .none⟩]))) (.reg [⟨(.some 27), .none, (.bin .add (.tmp 20) (.const (jn 1))), [], .none⟩, ⟨(.some 20), .none, (.mov (.tmp 27)), [], .none⟩]))))))) (.seq (.block 2 (.loop (.seq (.seq (.reg [⟨(.some 28), .none, (.mov (.tmp 5)), [], .none⟩, ⟨(.some 29), .none, (.icall 24 (.tmp 28) []), [], .none⟩]) (.cond (.tmp 29) .skip (.exit 2))) (.block 3 .skip)))) (.seq (.reg [⟨(.some 30), .none, (.mov (.tmp 0)), [], .none⟩, ⟨(.some 31), .none, (.nilc (.tmp 30)), [], .none⟩, ⟨(.some 32), .none, (.faddr 0 0 (.tmp 31)), [], .none⟩, ⟨(.some 33), .none, (.load .false 1 (.tmp 32)), [50], .none⟩, ⟨(.some 34), .none, (.mov (.tmp 0)), [], .none⟩, ⟨(.some 35), .none, (.nilc (.tmp 34)), [], .none⟩, ⟨(.some 36), .none, (.faddr 0 0 (.tmp 35)), [], .none⟩, ⟨(.some 37), .none, (.load .false 1 (.tmp 36)), [50], .none⟩, ⟨(.some 38), .none, (.len .false (.tmp 37)), [50], .none⟩, ⟨(.some 39), .none, (.mov (.tmp 0)), [], .none⟩, ⟨(.some 40), .none, (.nilc (.tmp 39)), [], .none⟩, ⟨(.some 41), .none, (.faddr 0 0 (.tmp 40)), [], .none⟩, ⟨(.some 42), .none, (.load .false 1 (.tmp 41)), [50], .none⟩, ⟨(.some 43), .none, (.len .false (.tmp 42)), [50], .none⟩, ⟨(.some 44), .none, (.rdp (.cap3 3) [(.tmp 33), (.tmp 38), (.tmp 43)]), [], .none⟩, ⟨(.some 45), .none, (.mov (.tmp 0)), [], .none⟩, ⟨(.some 46), .none, (.nilc (.tmp 45)), [], .none⟩, ⟨(.some 47), .none, (.faddr 1 1 (.tmp 46)), [], .none⟩, ⟨(.some 48), .none, (.load .false 1 (.tmp 47)), [50], .none⟩, ⟨(.some 49), .none, (.build (.st [1, 1] [(.lit (.slice .none 0 0)), (.lit (.map .none))]) [(0, (.tmp 44)), (1, (.tmp 48))]), [], .none⟩, ⟨(.some 50), .none, (.box 2 (.tmp 49)), [], .none⟩, ⟨(.some 8), .none, (.mov (.tmp 50)), [], .none⟩]) (.seq (.reg [⟨(.some 51), .none, (.mov (.tmp 5)), [], .none⟩, ⟨(.some 52), .none, (.mov (.tmp 8)), [], .none⟩, ⟨(.some 53), .none, (.nilc (.tmp 51)), [], .none⟩, ⟨(.some 54), .none, (.faddr 0 0 (.tmp 53)), [], .none⟩, ⟨.none, .none, (.store 1 (.tmp 54) (.tmp 52)), [], .none⟩]) (.seq (.reg [⟨(.some 55), .none, (.mov (.tmp 5)), [], .none⟩, ⟨(.some 56), .none, (.rdp (.mkfn (.func 25) 1) [(.tmp 55)]), [], .none⟩, ⟨(.some 4), .none, (.mov (.tmp 56)), [], .none⟩]) .ret)))))))
def fc418 : FC := ⟨2, 57, [(.tmp 4)], fb418⟩
theorem fc418_eq : compF Go.Proofs.Tryd.prog 14 = some fc418 := by kernel_rfl

/-- A row's value, in the caller's world. -/
theorem XCall.shape {P : Program} {f : FuncId} {vs : List AV} {H : List (Option Blk)} {K : AV → List (Option Blk) → Prop} {j e esz sl : Nat} {V : Value} {els : List AV} (hj : H[j]? = some (some (.row e V esz els sl)))
    (h : ((V = .slice none 0 0 ∧ els = []) ∨ ∃ g c, V = .slice (some ⟨g, 0, none⟩) els.length c ∧ els.length ≤ c) → XCall P f vs H K) : XCall P f vs H K := by
  intro w0 w regs Imm Vs hfr hth hheap hargs
  refine h ?_ w0 w regs Imm Vs hfr hth hheap hargs
  obtain ⟨⟨cs, hR, hown, _⟩, _⟩ := hheap.ok j _ (show (H[j]?).join = _ by rw [hj]; rfl)
  obtain ⟨hlen, hown2⟩ := hown
  rcases hown2 with ⟨h1, hn⟩ | ⟨g, cap, cur, rfl, h0, hg, hcapn, hcapm, hcs, htake⟩
  · exact .inl ⟨h1, List.eq_nil_of_length_eq_zero hn⟩
  · exact .inr ⟨g, cap, rfl, by omega⟩

/-! ### Plain: what a round turns -/
theorem learnV_cnt (known : List Bool) (k : List UInt8) : (learnV known k).2.count false + (if (learnV known k).1 then 1 else 0) = known.count false ∧ ((learnV known k).1 = false → (learnV known k).2 = known) := by
  unfold learnV
  split
  · rename_i h
    obtain ⟨_, h2, h3⟩ := h
    refine ⟨?_, by simp⟩
    rw [List.getD_eq_getElem?_getD, List.getElem?_eq_getElem h2] at h3
    simp only [Option.getD_some] at h3
    simp only [if_true]
    rw [List.count_set h2]
    have := List.count_pos_iff.2 (show false ∈ known by rw [← h3]; exact List.getElem_mem h2)
    simp [h3]
    omega
  · simp
/-- Nothing is forgotten, and what is new is told. -/
def MoreOk (known : List Bool) (more : Bool) (y : List Bool × Bool) : Prop := y.1.count false ≤ known.count false ∧ (y.2 = true → more = true ∨ y.1.count false < known.count false) ∧ (y.2 = false → more = false ∧ y.1 = known)
theorem MoreOk.refl (known : List Bool) (more : Bool) : MoreOk known more (known, more) := ⟨Nat.le_refl _, .inl, fun h => ⟨h, rfl⟩⟩
theorem MoreOk.trans {known : List Bool} {more : Bool} {y z : List Bool × Bool} (h : MoreOk known more y) (k : MoreOk y.1 y.2 z) : MoreOk known more z := by
  obtain ⟨h1, h2, h3⟩ := h
  obtain ⟨k1, k2, k3⟩ := k
  refine ⟨by omega, fun hz => ?_, fun hz => ?_⟩
  · rcases k2 hz with h | h
    · rcases h2 h with h | h
      · exact .inl h
      · exact .inr (by omega)
    · exact .inr (by omega)
  · obtain ⟨a, b⟩ := k3 hz
    obtain ⟨c, d⟩ := h3 a
    exact ⟨c, by rw [b, d]⟩
theorem MoreOk.learn (known : List Bool) (more : Bool) (k : List UInt8) : MoreOk known more ((learnV known k).2, (learnV known k).1 || more) := by
  obtain ⟨h1, h2⟩ := learnV_cnt known k
  generalize learnV known k = l at *
  obtain ⟨b, k2⟩ := l
  simp only at h1 h2 ⊢
  cases b with
  | true => exact ⟨by simp at h1; simp only; omega, fun _ => .inr (by simp at h1; simp only; omega), by simp⟩
  | false =>
    have := h2 rfl
    subst this
    simp only [Bool.false_or]
    exact MoreOk.refl _ _
theorem MoreOk.learnL : ∀ (ks : List (List UInt8)) (known : List Bool) (more : Bool), MoreOk known more (learnL known more ks)
  | [], known, more => MoreOk.refl _ _
  | k :: ks, known, more => (MoreOk.learn known more k).trans (MoreOk.learnL ks _ _)
theorem MoreOk.step1 (ts : List Term) (i : Nat) (known : List Bool) (more : Bool) (x : Term) : MoreOk known more (step1 ts i known more x) := by
  unfold Cab.step1
  split
  · rename_i h
    have hi : i < known.length := by
      by_cases h' : i < known.length
      · exact h'
      · have := h.1; rw [List.getD_eq_getElem?_getD, List.getElem?_eq_none (by omega)] at this; cases this
    have h3 := h.1
    rw [List.getD_eq_getElem?_getD, List.getElem?_eq_getElem hi] at h3
    simp only [Option.getD_some] at h3
    have hc := List.count_pos_iff.2 (show false ∈ known by rw [← h3]; exact List.getElem_mem hi)
    have : (known.set i true).count false < known.count false := by
      rw [List.count_set hi]; simp [h3]; omega
    exact ⟨by simp only; omega, fun _ => .inr this, by simp⟩
  · exact MoreOk.refl _ _
theorem MoreOk.step2 (i : Nat) (known : List Bool) (more : Bool) (x : Term) : MoreOk known more (step2 i known more x) := by
  unfold Cab.step2
  split
  · exact MoreOk.learnL _ _ _
  · exact MoreOk.refl _ _
theorem MoreOk.roundG (ts : List Term) : ∀ (xs : List Term) (i : Nat) (known : List Bool) (more : Bool), MoreOk known more (roundG ts xs i known more)
  | [], _, _, _ => MoreOk.refl _ _
  | x :: xs, i, known, more => ((MoreOk.step1 ts i known more x).trans (MoreOk.step2 i _ _ x)).trans (MoreOk.roundG ts xs _ _ _)

def learnS : List Bool → List (List UInt8) → List Bool
  | known, [] => known
  | known, k :: ks => learnS (learnV known k).2 ks
theorem learnS_len : ∀ (ks : List (List UInt8)) (known : List Bool), (learnS known ks).length = known.length
  | [], _ => rfl
  | k :: ks, known => by rw [learnS, learnS_len ks, learnV_len]
/-- Rounds, one behind the other. -/
inductive Rounds (ts : List Term) : List Bool → List Bool → Prop
  | refl (k) : Rounds ts k k
  | step (k k') : Rounds ts k k' → Rounds ts k (roundV ts k').1
/-- All that follows of what was seen. -/
structure FolOk (ts : List Term) (seen : List (List UInt8)) (K : List Bool) : Prop where
  of : Rounds ts (learnS (List.replicate ts.length false) seen) K
  end_ : roundV ts K = (K, false)
theorem Rounds.len {ts : List Term} {a b : List Bool} (h : Rounds ts a b) : b.length = a.length := by
  induction h with
  | refl => rfl
  | step k' _ ih => unfold roundV; rw [roundG_len, ih]
theorem FolOk.len {ts : List Term} {seen : List (List UInt8)} {K : List Bool} (h : FolOk ts seen K) : K.length = ts.length := by rw [h.of.len, learnS_len, List.length_replicate]

def cloH (b : Nat) (l : Nat × Nat) : AV := .fnv (.func 25) [.ptr b l 0 []] []
theorem tgt_cloH (b : Nat) (l : Nat × Nat) (x : AV) : tgtA Go.Proofs.Tryd.prog .val [cloH b l, x] = some (25, [.ptr b l 0 [], x]) := by kernel_rfl
theorem mkfn_cloH (b : Nat) (l : Nat × Nat) : rdA Go.Proofs.Tryd.prog (fun _ => none) (.mkfn (.func 25) 1) [.ptr b l 0 []] = some (cloH b l) := by kernel_rfl
def FolK (H : List (Option Blk)) (ts : List Term) (seen : List (List UInt8)) (r : AV) (H' : List (Option Blk)) : Prop :=
  ∃ K f Vk L', FolOk ts seen K ∧ r = cloH f.b f.l ∧ H' = H ++ L' ∧ ∀ G : List (Option Blk), G.length = H.length → FcOk (G ++ L') f Vk K
/-! ### The walk -/

set_option maxHeartbeats 64000000 in
theorem follow_sl {H : List (Option Blk)} {t : Tb} {V : Value} {ts : List Term} (hT : TbOk H t V ts) (hts : TsOk ts) {seen : List (List UInt8)} (hsl : seen.length < 100000) (h32 : ∀ k ∈ seen, k.length = 32) :
    XCall Go.Proofs.Tryd.prog 14 [.ptr t.b t.l 0 [], .sl 32 (klA seen)] H (FolK H ts seen) := by
  refine XCall.shape (j := t.j) (e := 93) (V := V) (esz := 3) (els := ts.map termA) (sl := 0) hT.hj fun hV => ?_
  have h418 := fc418_eq
  refine XCall.le ?_
  have lb := hT.lb
  have lj := hT.lj
  have lm := hT.lm
  have hlen := hts.len
  have htb := hT.hb
  have htj := hT.hj
  unfold tbk at htb
  unfold trk at htj
  refine XCall.of h418 rfl ?_; show AC.wp _ fb418 ⟨H.length, [.ptr t.b t.l 0 [], .sl 32 (klA seen)] ++ List.replicate (57 - 2) .any, H ++ List.replicate 57 none⟩ (fun x s => match x with | .exit _ => False | _ => ∃ s1, Le s s1 ∧ FinX [(.tmp 4)] s1 _); unfold fb418
  generalize hN : H.length = N at *
  have q1 : ∀ L k, (H ++ L)[N + k]? = L[k]? := fun L k => cat1 N H L k hN
  have q2 : ∀ L k x, (H ++ L).set (N + k) x = H ++ L.set k x := fun L k x => cat2 N H L k x hN
  have q6 : ∀ L, (H ++ L)[t.b]? = some (some (.box t.l 2 (.st [1, 1] [.own t.j V, .own t.m (.map (some t.r))]))) := fun L => by rw [cat4 N H L _ hN lb]; exact htb
  have q7 : ∀ L, (H ++ L)[t.j]? = some (some (.row 93 V 3 (ts.map termA) 0)) := fun L => by rw [cat4 N H L _ hN lj]; exact htj
  have hml : (ts.map termA).length = ts.length := List.length_map _
  refine wp_sr (by simp [push_cast]; exact rfl) (wp_sg ?_)
  refine areg_run 6 (by simp [push_cast, q6, q7, hml]; exact rfl) ?_
  refine areg_mk (n := ts.length) rfl rfl (by simp [maxLen]; omega) (by omega) fun Vk => ?_
  refine areg_run 1 (by simp [push_cast, q2]; exact rfl) ?_
  refine areg_bx rfl rfl fun l17 => areg_end (by simp [push_cast, q2]; exact rfl) ?_
  -- the state, with so much known
  obtain ⟨f, hf⟩ : ∃ f : Fc, f = ⟨N + 17, l17, N + 15, t.b, t.l⟩ := ⟨_, rfl⟩
  have hFt : ∀ (kw : List Bool) (L : List (Option Blk)), kw.length = ts.length → L[15]? = some (some (frk Vk kw)) → L[17]? = some (some (.box l17 2 (.st [1, 1] [.ptr t.b t.l 0 [], .own (N + 15) Vk]))) → FtOk (H ++ L) f t V ts Vk kw := fun kw L hk e15 e17 => by
    subst hf
    exact ⟨⟨by rw [q1]; exact e17, by rw [q1]; exact e15, by rw [hk]; exact (hT.app L).tabX, by omega⟩, hT.app L, rfl, rfl, hk, by simp only; omega, by simp only; omega, by simp only; omega, by simp⟩
  have hko : ∀ (kw : List Bool) (L : List (Option Blk)), kOf (H ++ L) f Vk kw = H ++ L.set 15 (some (frk Vk kw)) := fun kw L => by subst hf; exact q2 L 15 _
  have frk1 : ∀ kw, frk Vk kw = .row 4 Vk 1 (kwA kw) 0 := fun _ => rfl
  refine wp_seq' (wp_seq' (wp_r (by simp [push_cast, klA_len]; exact rfl) ?_))
  refine wp_block' (wp_loop_m (fun (x : Nat × List Bool) => (⟨N, [.ptr t.b t.l 0 [], .sl 32 (klA seen), .any, .any, .lit .nilFunc, .ptr (N + 17) l17 0 []] ++ List.replicate 12 .any ++ [.sl 32 (klA seen), .lit (jn seen.length), .lit (jn x.1)] ++ List.replicate 36 .any, H ++ (List.replicate 15 none ++ [some (frk Vk x.2), none, some (.box l17 2 (.st [1, 1] [.ptr t.b t.l 0 [], .own (N + 15) Vk]))] ++ List.replicate 39 none)⟩ : AS))
    (fun x => seen.length - x.1) (fun x => learnS x.2 (seen.drop x.1) = learnS (List.replicate ts.length false) seen ∧ x.1 ≤ seen.length ∧ x.2.length = ts.length) (0, List.replicate ts.length false) (Le.mk rfl (by simp [leT]) ?_) ⟨rfl, by simp, by simp⟩ ?_)
  · exact leH_app (leH_refl _) (by simp [leH, frk1, kwA])
  rintro ⟨i, kw⟩ ⟨hI, hi, hkl⟩
  simp only at hI hi hkl ⊢
  by_cases hlt : i < seen.length
  · obtain ⟨u, hu⟩ : ∃ u, seen[i]? = some u := ⟨_, List.getElem?_eq_getElem hlt⟩
    have hdrop : seen.drop i = u :: seen.drop (i + 1) := by
      rw [List.drop_eq_getElem_cons hlt]
      rw [List.getElem?_eq_getElem hlt] at hu
      rw [Option.some.inj hu]
    rw [hdrop, learnS] at hI
    have hu32 := h32 u (List.mem_of_getElem? hu)
    have j1 : (klA seen)[i]? = some (keyA u) := by rw [klA_get, hu]; rfl
    have j2 : ∀ h, (klA seen)[i]'h = keyA u := fun h => by rw [List.getElem?_eq_getElem h] at j1; exact Option.some.inj j1
    have j3 : i + 1 < 9223372036854775808 := by omega
    have cl := fun L e15 e17 => learn_call (hFt kw L hkl e15 e17).fc hu32
    have hl4 := learnV_len kw u
    generalize learnV kw u = lv at *
    obtain ⟨b5, k5⟩ := lv
    simp only at hI hl4 cl
    have hfb : f.b = N + 17 := by rw [hf]
    have hfl : f.l = l17 := by rw [hf]
    rw [hfb, hfl] at cl
    refine wp_sr (by simp [push_cast, hlt]; exact rfl) (wp_seq' (wp_cond_t (by simp [AS.ev]) (wp_skip' ?_)))
    refine wp_seq' (wp_block' (wp_sg ?_))
    refine areg_run 2 (by simp [push_cast, j1, j2, hlt, klA_len]; exact rfl) ?_
    refine areg_al' zk_eq.symm fun l7 => areg_end (by simp [push_cast, q1, q2, hu32]; exact rfl) ?_
    refine wp_rg ?_
    refine areg_run 2 (by simp [push_cast, q1, hu32]; exact rfl) ?_
    refine areg_xc rfl (cl _ rfl rfl) ⟨_, _, rfl, rfl⟩ ?_
    rintro _ _ ⟨rfl, rfl⟩
    rw [hko]
    refine areg_end (by simp [push_cast]; exact rfl) ?_
    refine wp_r (by simp [push_cast, j3]; exact rfl) ?_
    exact Exists.intro (i + 1, k5) ⟨⟨hI, by omega, by simp only; omega⟩, by simp only; omega, Le.mk rfl (by simp [leT]) (leH_app (leH_refl _) (by simp [leH]))⟩
  have hin : i = seen.length := by omega
  subst hin
  rw [List.drop_length, learnS] at hI
  refine wp_sr (by simp [push_cast]; exact rfl) (wp_seq' (wp_cond_f (by simp [AS.ev]) (wp_exit' (if_hit rfl ?_))))
  -- rounds
  refine wp_seqL (wp_block' (wp_loop_m (fun kw : List Bool => (⟨N, [.ptr t.b t.l 0 [], .sl 32 (klA seen), .any, .any, .lit .nilFunc, .ptr (N + 17) l17 0 []] ++ List.replicate 51 .any, H ++ (List.replicate 15 none ++ [some (frk Vk kw), none, some (.box l17 2 (.st [1, 1] [.ptr t.b t.l 0 [], .own (N + 15) Vk]))] ++ List.replicate 39 none)⟩ : AS))
    (fun kw => kw.count false) (fun kw => Rounds ts (learnS (List.replicate ts.length false) seen) kw) kw (Le.mk rfl (by simp [leT]) (leH_app (leH_refl _) (by simp [leH]))) (by rw [hI]; exact .refl _) ?_))
  clear hI hkl
  clear kw
  intro kw hR
  have hkl : kw.length = ts.length := by rw [hR.len, learnS_len, List.length_replicate]
  simp only
  have cr := fun L e15 e17 => round_call (hFt kw L hkl e15 e17) hts
  have hstep := Rounds.step _ _ hR
  have hmo : MoreOk kw false (roundV ts kw) := MoreOk.roundG ts ts 0 kw false
  have hrl : (roundV ts kw).1.length = kw.length := roundG_len ts ts 0 kw false
  generalize hrv : roundV ts kw = rv at *
  obtain ⟨k6, b6⟩ := rv
  obtain ⟨m1, m2, m3⟩ := hmo
  simp only at m1 m2 m3 cr hstep hrl
  have hfb : f.b = N + 17 := by rw [hf]
  have hfl : f.l = l17 := by rw [hf]
  rw [hfb, hfl] at cr
  refine wp_seq' (wp_seq' (wp_rg ?_))
  refine areg_run 1 (by simp [push_cast]; exact rfl) ?_
  refine areg_xc rfl (cr _ rfl rfl) ⟨_, _, rfl, rfl⟩ ?_
  rintro _ _ ⟨rfl, rfl⟩
  rw [hko]
  refine areg_end (by simp [push_cast]; exact rfl) ?_
  cases b6 with
  | true =>
    refine wp_cond_t (by simp [AS.ev]) (wp_skip' (wp_block' (wp_skip' ?_)))
    refine Exists.intro k6 ⟨hstep, ?_, Le.mk rfl (by simp [leT]) (leH_app (leH_refl _) (by simp [leH]))⟩
    rcases m2 rfl with h | h
    · cases h
    · exact h
  | false =>
    obtain ⟨_, hkk⟩ := m3 rfl
    subst hkk
    refine wp_cond_f (by simp [AS.ev]) (wp_exit' (if_hit rfl ?_))
    refine ⟨_, Le.refl _, ?_⟩
    have hfo : FolOk ts seen k6 := ⟨hR, hrv⟩
    have hfin : ∀ (x8 : AV) (l50 : Nat × Nat), LenX [] x8 ts.length → FolK H ts seen (cloH (N + 17) l17) (H ++ (List.replicate 15 none ++ [some (frk Vk k6), none, some (.box l17 2 (.st [1, 1] [.ptr (N + 50) l50 0 [], .own (N + 15) Vk]))] ++ List.replicate 32 none ++ [some (.box l50 2 (.st [1, 1] [x8, .own t.m (.map (some t.r))]))])) := fun x8 l50 h8 => by
      refine ⟨k6, ⟨N + 17, l17, N + 15, N + 50, l50⟩, Vk, _, hfo, rfl, rfl, fun G hG => ?_⟩
      have e := fun k => cat1 N G (List.replicate 15 none ++ [some (frk Vk k6), none, some (.box l17 2 (.st [1, 1] [.ptr (N + 50) l50 0 [], .own (N + 15) Vk]))] ++ List.replicate 32 none ++ [some (.box l50 2 (.st [1, 1] [x8, .own t.m (.map (some t.r))]))]) k (by omega)
      refine ⟨by rw [e]; rfl, by rw [e]; rfl, ⟨x8, .own t.m (.map (some t.r)), by rw [e]; rfl, ?_⟩, by omega⟩
      rw [hkl]
      rcases h8 with ⟨j, V, els, sl, _, h, _⟩ | h | h
      · simp at h
      · exact .inr (.inl h)
      · exact .inr (.inr h)
    have hfin2 : ∀ (x8 : AV) (l50 : Nat × Nat) (R : List (Option Blk)) (s : AS), LenX [] x8 ts.length → RVal s (.tmp 4) = some (cloH (N + 17) l17) → s.hp = H ++ (List.replicate 15 none ++ [some (frk Vk k6), none, some (.box l17 2 (.st [1, 1] [.ptr (N + 50) l50 0 [], .own (N + 15) Vk]))] ++ List.replicate 32 none ++ [some (.box l50 2 (.st [1, 1] [x8, .own t.m (.map (some t.r))]))]) ++ R → ∃ s1, Le s s1 ∧ FinX [RV.tmp 4] s1 fun r H' => ∃ r' A, RelLe r r' ∧ r' ≠ .any ∧ HpLe H' A ∧ FolK H ts seen r' A := fun x8 l50 R s h8 hr hR =>
      ⟨s, Le.refl _, finX1 hr (by simp [cloH]) ⟨_, _, RelLe.refl _, by simp [cloH], by rw [hR]; exact HpLe.trim _ _, hfin x8 l50 h8⟩⟩
    refine wp_sg ?_
    have n50 : ¬ t.b = N + 50 := by omega
    have n50j : ¬ t.j = N + 50 := by omega
    refine areg_run 14 (by simp [push_cast, q6, q7, hml, n50, n50j]; exact rfl) ?_
    rcases hV with ⟨rfl, hnil⟩ | ⟨g, cc, hVs, hcc⟩
    · have hz : ts.length = 0 := by rw [← hml, hnil]; rfl
      refine areg_rdp (us := [.own t.j (.slice none 0 0), .lit (jn ts.length), .lit (jn ts.length)]) (v := .lit (.slice none 0 0)) rfl (by rw [hz]; simp [rdA, rdB, jn]) ?_
      refine areg_run 5 (by simp [push_cast, q6, n50]; exact rfl) ?_
      refine areg_bx rfl rfl fun l50 => areg_end (by simp [push_cast, q2]; exact rfl) ?_
      refine wp_sr (by simp [push_cast, q1, q2]; exact rfl) ?_
      refine wp_sg ?_
      refine areg_run 1 (by simp [push_cast]; exact rfl) ?_
      refine areg_rdp (us := [.ptr (N + 17) l17 0 []]) rfl (mkfn_cloH _ _) ?_
      refine areg_end (by simp [push_cast]; exact rfl) (wp_ret' ?_)
      exact hfin2 (.lit (.slice none 0 0)) l50 (List.replicate 6 none) _ (.inr (.inr ⟨rfl, hz⟩)) (by simp [RVal, AS.ev, AS.coe, cloH]) (by simp)
    · rw [hml] at hVs hcc
      have hcap : rdA Go.Proofs.Tryd.prog (fun _ => none) (.cap3 3) [.own t.j V, .lit (jn ts.length), .lit (jn ts.length)] = some (.view 0 (g, 0) 0 [] 3 0 ts.length ts.length) := by
        subst hVs
        simp [rdA, rdB, jn, hcc]
      refine areg_rdp (us := [.own t.j V, .lit (jn ts.length), .lit (jn ts.length)]) (v := .view 0 (g, 0) 0 [] 3 0 ts.length ts.length) rfl hcap ?_
      refine areg_run 5 (by simp [push_cast, q6, n50]; exact rfl) ?_
      refine areg_bx rfl rfl fun l50 => areg_end (by simp [push_cast, q2]; exact rfl) ?_
      refine wp_sr (by simp [push_cast, q1, q2]; exact rfl) ?_
      refine wp_sg ?_
      refine areg_run 1 (by simp [push_cast]; exact rfl) ?_
      refine areg_rdp (us := [.ptr (N + 17) l17 0 []]) rfl (mkfn_cloH _ _) ?_
      refine areg_end (by simp [push_cast]; exact rfl) (wp_ret' ?_)
      exact hfin2 (.view 0 (g, 0) 0 [] 3 0 ts.length ts.length) l50 (List.replicate 6 none) _ (.inr (.inl ⟨_, _, _, _, _, _, rfl⟩)) (by simp [RVal, AS.ev, AS.coe, cloH]) (by simp)

set_option maxHeartbeats 64000000 in
theorem follow_own {H : List (Option Blk)} {t : Tb} {V : Value} {ts : List Term} (hT : TbOk H t V ts) (hts : TsOk ts) {seen : List (List UInt8)} (hsl : seen.length < 100000) (h32 : ∀ k ∈ seen, k.length = 32) {c sl : Nat} {Vc : Value} (hc : H[c]? = some (some (.row 23 Vc 32 (klA seen) sl))) :
    XCall Go.Proofs.Tryd.prog 14 [.ptr t.b t.l 0 [], .own c Vc] H (FolK H ts seen) := by
  refine XCall.shape (j := t.j) (e := 93) (V := V) (esz := 3) (els := ts.map termA) (sl := 0) hT.hj fun hV => ?_
  have h418 := fc418_eq
  refine XCall.le ?_
  have lb := hT.lb
  have lj := hT.lj
  have lm := hT.lm
  have hlen := hts.len
  have htb := hT.hb
  have htj := hT.hj
  unfold tbk at htb
  unfold trk at htj
  refine XCall.of h418 rfl ?_; show AC.wp _ fb418 ⟨H.length, [.ptr t.b t.l 0 [], .own c Vc] ++ List.replicate (57 - 2) .any, H ++ List.replicate 57 none⟩ (fun x s => match x with | .exit _ => False | _ => ∃ s1, Le s s1 ∧ FinX [(.tmp 4)] s1 _); unfold fb418
  generalize hN : H.length = N at *
  have lc := (List.getElem?_eq_some_iff.1 hc).1
  have qc : ∀ L, (H ++ L)[c]? = some (some (.row 23 Vc 32 (klA seen) sl)) := fun L => by rw [cat4 N H L _ hN (by omega)]; exact hc
  have q1 : ∀ L k, (H ++ L)[N + k]? = L[k]? := fun L k => cat1 N H L k hN
  have q2 : ∀ L k x, (H ++ L).set (N + k) x = H ++ L.set k x := fun L k x => cat2 N H L k x hN
  have q6 : ∀ L, (H ++ L)[t.b]? = some (some (.box t.l 2 (.st [1, 1] [.own t.j V, .own t.m (.map (some t.r))]))) := fun L => by rw [cat4 N H L _ hN lb]; exact htb
  have q7 : ∀ L, (H ++ L)[t.j]? = some (some (.row 93 V 3 (ts.map termA) 0)) := fun L => by rw [cat4 N H L _ hN lj]; exact htj
  have hml : (ts.map termA).length = ts.length := List.length_map _
  refine wp_sr (by simp [push_cast]; exact rfl) (wp_sg ?_)
  refine areg_run 6 (by simp [push_cast, q6, q7, hml]; exact rfl) ?_
  refine areg_mk (n := ts.length) rfl rfl (by simp [maxLen]; omega) (by omega) fun Vk => ?_
  refine areg_run 1 (by simp [push_cast, q2]; exact rfl) ?_
  refine areg_bx rfl rfl fun l17 => areg_end (by simp [push_cast, q2]; exact rfl) ?_
  -- the state, with so much known
  obtain ⟨f, hf⟩ : ∃ f : Fc, f = ⟨N + 17, l17, N + 15, t.b, t.l⟩ := ⟨_, rfl⟩
  have hFt : ∀ (kw : List Bool) (L : List (Option Blk)), kw.length = ts.length → L[15]? = some (some (frk Vk kw)) → L[17]? = some (some (.box l17 2 (.st [1, 1] [.ptr t.b t.l 0 [], .own (N + 15) Vk]))) → FtOk (H ++ L) f t V ts Vk kw := fun kw L hk e15 e17 => by
    subst hf
    exact ⟨⟨by rw [q1]; exact e17, by rw [q1]; exact e15, by rw [hk]; exact (hT.app L).tabX, by omega⟩, hT.app L, rfl, rfl, hk, by simp only; omega, by simp only; omega, by simp only; omega, by simp⟩
  have hko : ∀ (kw : List Bool) (L : List (Option Blk)), kOf (H ++ L) f Vk kw = H ++ L.set 15 (some (frk Vk kw)) := fun kw L => by subst hf; exact q2 L 15 _
  have frk1 : ∀ kw, frk Vk kw = .row 4 Vk 1 (kwA kw) 0 := fun _ => rfl
  refine wp_seq' (wp_seq' (wp_r (by simp [push_cast, qc, klA_len]; exact rfl) ?_))
  refine wp_block' (wp_loop_m (fun (x : Nat × List Bool) => (⟨N, [.ptr t.b t.l 0 [], .own c Vc, .any, .any, .lit .nilFunc, .ptr (N + 17) l17 0 []] ++ List.replicate 12 .any ++ [.own c Vc, .lit (jn seen.length), .lit (jn x.1)] ++ List.replicate 36 .any, H ++ (List.replicate 15 none ++ [some (frk Vk x.2), none, some (.box l17 2 (.st [1, 1] [.ptr t.b t.l 0 [], .own (N + 15) Vk]))] ++ List.replicate 39 none)⟩ : AS))
    (fun x => seen.length - x.1) (fun x => learnS x.2 (seen.drop x.1) = learnS (List.replicate ts.length false) seen ∧ x.1 ≤ seen.length ∧ x.2.length = ts.length) (0, List.replicate ts.length false) (Le.mk rfl (by simp [leT]) ?_) ⟨rfl, by simp, by simp⟩ ?_)
  · exact leH_app (leH_refl _) (by simp [leH, frk1, kwA])
  rintro ⟨i, kw⟩ ⟨hI, hi, hkl⟩
  simp only at hI hi hkl ⊢
  by_cases hlt : i < seen.length
  · obtain ⟨u, hu⟩ : ∃ u, seen[i]? = some u := ⟨_, List.getElem?_eq_getElem hlt⟩
    have hdrop : seen.drop i = u :: seen.drop (i + 1) := by
      rw [List.drop_eq_getElem_cons hlt]
      rw [List.getElem?_eq_getElem hlt] at hu
      rw [Option.some.inj hu]
    rw [hdrop, learnS] at hI
    have hu32 := h32 u (List.mem_of_getElem? hu)
    have j1 : (klA seen)[i]? = some (keyA u) := by rw [klA_get, hu]; rfl
    have j2 : ∀ h, (klA seen)[i]'h = keyA u := fun h => by rw [List.getElem?_eq_getElem h] at j1; exact Option.some.inj j1
    have j3 : i + 1 < 9223372036854775808 := by omega
    have cl := fun L e15 e17 => learn_call (hFt kw L hkl e15 e17).fc hu32
    have hl4 := learnV_len kw u
    generalize learnV kw u = lv at *
    obtain ⟨b5, k5⟩ := lv
    simp only at hI hl4 cl
    have hfb : f.b = N + 17 := by rw [hf]
    have hfl : f.l = l17 := by rw [hf]
    rw [hfb, hfl] at cl
    refine wp_sr (by simp [push_cast, hlt]; exact rfl) (wp_seq' (wp_cond_t (by simp [AS.ev]) (wp_skip' ?_)))
    refine wp_seq' (wp_block' (wp_sg ?_))
    refine areg_run 2 (by simp [push_cast, qc, j1, j2, hlt, klA_len]; exact rfl) ?_
    refine areg_al' zk_eq.symm fun l7 => areg_end (by simp [push_cast, q1, q2, hu32]; exact rfl) ?_
    refine wp_rg ?_
    refine areg_run 2 (by simp [push_cast, q1, hu32]; exact rfl) ?_
    refine areg_xc rfl (cl _ rfl rfl) ⟨_, _, rfl, rfl⟩ ?_
    rintro _ _ ⟨rfl, rfl⟩
    rw [hko]
    refine areg_end (by simp [push_cast]; exact rfl) ?_
    refine wp_r (by simp [push_cast, j3]; exact rfl) ?_
    exact Exists.intro (i + 1, k5) ⟨⟨hI, by omega, by simp only; omega⟩, by simp only; omega, Le.mk rfl (by simp [leT]) (leH_app (leH_refl _) (by simp [leH]))⟩
  have hin : i = seen.length := by omega
  subst hin
  rw [List.drop_length, learnS] at hI
  refine wp_sr (by simp [push_cast]; exact rfl) (wp_seq' (wp_cond_f (by simp [AS.ev]) (wp_exit' (if_hit rfl ?_))))
  -- rounds
  refine wp_seqL (wp_block' (wp_loop_m (fun kw : List Bool => (⟨N, [.ptr t.b t.l 0 [], .own c Vc, .any, .any, .lit .nilFunc, .ptr (N + 17) l17 0 []] ++ List.replicate 51 .any, H ++ (List.replicate 15 none ++ [some (frk Vk kw), none, some (.box l17 2 (.st [1, 1] [.ptr t.b t.l 0 [], .own (N + 15) Vk]))] ++ List.replicate 39 none)⟩ : AS))
    (fun kw => kw.count false) (fun kw => Rounds ts (learnS (List.replicate ts.length false) seen) kw) kw (Le.mk rfl (by simp [leT]) (leH_app (leH_refl _) (by simp [leH]))) (by rw [hI]; exact .refl _) ?_))
  clear hI hkl
  clear kw
  intro kw hR
  have hkl : kw.length = ts.length := by rw [hR.len, learnS_len, List.length_replicate]
  simp only
  have cr := fun L e15 e17 => round_call (hFt kw L hkl e15 e17) hts
  have hstep := Rounds.step _ _ hR
  have hmo : MoreOk kw false (roundV ts kw) := MoreOk.roundG ts ts 0 kw false
  have hrl : (roundV ts kw).1.length = kw.length := roundG_len ts ts 0 kw false
  generalize hrv : roundV ts kw = rv at *
  obtain ⟨k6, b6⟩ := rv
  obtain ⟨m1, m2, m3⟩ := hmo
  simp only at m1 m2 m3 cr hstep hrl
  have hfb : f.b = N + 17 := by rw [hf]
  have hfl : f.l = l17 := by rw [hf]
  rw [hfb, hfl] at cr
  refine wp_seq' (wp_seq' (wp_rg ?_))
  refine areg_run 1 (by simp [push_cast]; exact rfl) ?_
  refine areg_xc rfl (cr _ rfl rfl) ⟨_, _, rfl, rfl⟩ ?_
  rintro _ _ ⟨rfl, rfl⟩
  rw [hko]
  refine areg_end (by simp [push_cast]; exact rfl) ?_
  cases b6 with
  | true =>
    refine wp_cond_t (by simp [AS.ev]) (wp_skip' (wp_block' (wp_skip' ?_)))
    refine Exists.intro k6 ⟨hstep, ?_, Le.mk rfl (by simp [leT]) (leH_app (leH_refl _) (by simp [leH]))⟩
    rcases m2 rfl with h | h
    · cases h
    · exact h
  | false =>
    obtain ⟨_, hkk⟩ := m3 rfl
    subst hkk
    refine wp_cond_f (by simp [AS.ev]) (wp_exit' (if_hit rfl ?_))
    refine ⟨_, Le.refl _, ?_⟩
    have hfo : FolOk ts seen k6 := ⟨hR, hrv⟩
    have hfin : ∀ (x8 : AV) (l50 : Nat × Nat), LenX [] x8 ts.length → FolK H ts seen (cloH (N + 17) l17) (H ++ (List.replicate 15 none ++ [some (frk Vk k6), none, some (.box l17 2 (.st [1, 1] [.ptr (N + 50) l50 0 [], .own (N + 15) Vk]))] ++ List.replicate 32 none ++ [some (.box l50 2 (.st [1, 1] [x8, .own t.m (.map (some t.r))]))])) := fun x8 l50 h8 => by
      refine ⟨k6, ⟨N + 17, l17, N + 15, N + 50, l50⟩, Vk, _, hfo, rfl, rfl, fun G hG => ?_⟩
      have e := fun k => cat1 N G (List.replicate 15 none ++ [some (frk Vk k6), none, some (.box l17 2 (.st [1, 1] [.ptr (N + 50) l50 0 [], .own (N + 15) Vk]))] ++ List.replicate 32 none ++ [some (.box l50 2 (.st [1, 1] [x8, .own t.m (.map (some t.r))]))]) k (by omega)
      refine ⟨by rw [e]; rfl, by rw [e]; rfl, ⟨x8, .own t.m (.map (some t.r)), by rw [e]; rfl, ?_⟩, by omega⟩
      rw [hkl]
      rcases h8 with ⟨j, V, els, sl, _, h, _⟩ | h | h
      · simp at h
      · exact .inr (.inl h)
      · exact .inr (.inr h)
    have hfin2 : ∀ (x8 : AV) (l50 : Nat × Nat) (R : List (Option Blk)) (s : AS), LenX [] x8 ts.length → RVal s (.tmp 4) = some (cloH (N + 17) l17) → s.hp = H ++ (List.replicate 15 none ++ [some (frk Vk k6), none, some (.box l17 2 (.st [1, 1] [.ptr (N + 50) l50 0 [], .own (N + 15) Vk]))] ++ List.replicate 32 none ++ [some (.box l50 2 (.st [1, 1] [x8, .own t.m (.map (some t.r))]))]) ++ R → ∃ s1, Le s s1 ∧ FinX [RV.tmp 4] s1 fun r H' => ∃ r' A, RelLe r r' ∧ r' ≠ .any ∧ HpLe H' A ∧ FolK H ts seen r' A := fun x8 l50 R s h8 hr hR =>
      ⟨s, Le.refl _, finX1 hr (by simp [cloH]) ⟨_, _, RelLe.refl _, by simp [cloH], by rw [hR]; exact HpLe.trim _ _, hfin x8 l50 h8⟩⟩
    refine wp_sg ?_
    have n50 : ¬ t.b = N + 50 := by omega
    have n50j : ¬ t.j = N + 50 := by omega
    refine areg_run 14 (by simp [push_cast, q6, q7, hml, n50, n50j]; exact rfl) ?_
    rcases hV with ⟨rfl, hnil⟩ | ⟨g, cc, hVs, hcc⟩
    · have hz : ts.length = 0 := by rw [← hml, hnil]; rfl
      refine areg_rdp (us := [.own t.j (.slice none 0 0), .lit (jn ts.length), .lit (jn ts.length)]) (v := .lit (.slice none 0 0)) rfl (by rw [hz]; simp [rdA, rdB, jn]) ?_
      refine areg_run 5 (by simp [push_cast, q6, n50]; exact rfl) ?_
      refine areg_bx rfl rfl fun l50 => areg_end (by simp [push_cast, q2]; exact rfl) ?_
      refine wp_sr (by simp [push_cast, q1, q2]; exact rfl) ?_
      refine wp_sg ?_
      refine areg_run 1 (by simp [push_cast]; exact rfl) ?_
      refine areg_rdp (us := [.ptr (N + 17) l17 0 []]) rfl (mkfn_cloH _ _) ?_
      refine areg_end (by simp [push_cast]; exact rfl) (wp_ret' ?_)
      exact hfin2 (.lit (.slice none 0 0)) l50 (List.replicate 6 none) _ (.inr (.inr ⟨rfl, hz⟩)) (by simp [RVal, AS.ev, AS.coe, cloH]) (by simp)
    · rw [hml] at hVs hcc
      have hcap : rdA Go.Proofs.Tryd.prog (fun _ => none) (.cap3 3) [.own t.j V, .lit (jn ts.length), .lit (jn ts.length)] = some (.view 0 (g, 0) 0 [] 3 0 ts.length ts.length) := by
        subst hVs
        simp [rdA, rdB, jn, hcc]
      refine areg_rdp (us := [.own t.j V, .lit (jn ts.length), .lit (jn ts.length)]) (v := .view 0 (g, 0) 0 [] 3 0 ts.length ts.length) rfl hcap ?_
      refine areg_run 5 (by simp [push_cast, q6, n50]; exact rfl) ?_
      refine areg_bx rfl rfl fun l50 => areg_end (by simp [push_cast, q2]; exact rfl) ?_
      refine wp_sr (by simp [push_cast, q1, q2]; exact rfl) ?_
      refine wp_sg ?_
      refine areg_run 1 (by simp [push_cast]; exact rfl) ?_
      refine areg_rdp (us := [.ptr (N + 17) l17 0 []]) rfl (mkfn_cloH _ _) ?_
      refine areg_end (by simp [push_cast]; exact rfl) (wp_ret' ?_)
      exact hfin2 (.view 0 (g, 0) 0 [] 3 0 ts.length ts.length) l50 (List.replicate 6 none) _ (.inr (.inl ⟨_, _, _, _, _, _, rfl⟩)) (by simp [RVal, AS.ev, AS.coe, cloH]) (by simp)
end Go.Cab

/- What follows, plain: no more than any set that is closed; all that can be made. -/
-- TEXTS
-- KIT
namespace Go.Cab
open Classical

/-- Is it known? -/
def Kn (known : List Bool) (i : Nat) : Prop := known.getD i false = true
def KLe (a b : List Bool) : Prop := a.length = b.length ∧ ∀ i, Kn a i → Kn b i
theorem KLe.refl (a : List Bool) : KLe a a := ⟨rfl, fun _ h => h⟩
theorem KLe.trans {a b c : List Bool} (h : KLe a b) (k : KLe b c) : KLe a c := ⟨h.1.trans k.1, fun i x => k.2 i (h.2 i x)⟩
theorem Kn.lt {known : List Bool} {i : Nat} (h : Kn known i) : i < known.length := by
  by_cases hi : i < known.length
  · exact hi
  · unfold Kn at h; rw [List.getD_eq_getElem?_getD, List.getElem?_eq_none (by omega)] at h; cases h
theorem Kn.set {known : List Bool} {i j : Nat} (h : Kn (known.set i true) j) : j = i ∨ Kn known j := by
  by_cases e : i = j
  · exact .inl e.symm
  · refine .inr ?_
    unfold Kn at *
    rw [List.getD_eq_getElem?_getD, List.getElem?_set_ne e] at h
    rwa [List.getD_eq_getElem?_getD]
theorem Kn.of_set {known : List Bool} {i j : Nat} (h : Kn known j) : Kn (known.set i true) j := by
  unfold Kn at *
  rw [List.getD_eq_getElem?_getD, List.getElem?_set]
  split
  · split
    · rfl
    · rename_i e h'; subst e; exact absurd (Kn.lt h) h'
  · rwa [← List.getD_eq_getElem?_getD]
theorem Kn.set_self {known : List Bool} {i : Nat} (h : i < known.length) : Kn (known.set i true) i := by
  unfold Kn; rw [List.getD_eq_getElem?_getD, List.getElem?_set_self h]; rfl

theorem hasV_mono {a b : List Bool} (h : KLe a b) {k : List UInt8} (hk : hasV a k = true) : hasV b k = true := by
  unfold hasV at *
  split
  · rename_i e; rw [if_pos e] at hk; exact h.2 _ hk
  · rfl
theorem pubV_mono {a b : List Bool} (h : KLe a b) {ts : List Term} {k : List UInt8} (hk : pubV ts a k = true) : pubV ts b k = true := by
  unfold pubV at *
  simp only [Bool.or_eq_true] at hk ⊢
  rcases hk with hk | hk
  · exact .inl (hasV_mono h hk)
  · refine .inr ?_
    cases hf : findT (shapeT (pubT k)) ts 0 with
    | none => rw [hf] at hk; cases hk
    | some n => rw [hf] at hk; exact h.2 n hk
theorem madeV_mono {a b : List Bool} (h : KLe a b) {ts : List Term} {x : Term} (hk : madeV ts a x = true) : madeV ts b x = true := by
  unfold madeV at *
  split
  · rename_i e; rw [if_pos e] at hk; cases hk
  · rename_i e
    rw [if_neg e] at hk
    split
    · rename_i e4
      rw [if_pos e4] at hk
      simp only [Bool.or_eq_true, Bool.and_eq_true] at hk ⊢
      exact hk.imp (fun x => ⟨hasV_mono h x.1, pubV_mono h x.2⟩) (fun x => ⟨hasV_mono h x.1, pubV_mono h x.2⟩)
    · rename_i e4
      rw [if_neg e4] at hk
      rw [List.all_eq_true] at hk ⊢
      exact fun k hm => hasV_mono h (hk k hm)

/-- A set that nothing leads out of. -/
structure Clo (ts : List Term) (S : List Bool) : Prop where
  len : S.length = ts.length
  made : ∀ i x, ts[i]? = some x → madeV ts S x = true → Kn S i
  opens : ∀ i x, ts[i]? = some x → x.kind = 6 → Kn S i → hasV S (x.keys.getD 0 zk) = true → ∀ k ∈ x.keys.drop 2, nameK (be32 k) = k → be32 k < ts.length → Kn S (be32 k)

section
variable {ts : List Term} {S : List Bool}
theorem learn_in {known : List Bool} (hle : KLe known S) {k : List UInt8} (hk : nameK (be32 k) = k → be32 k < S.length → Kn S (be32 k)) : KLe (learnV known k).2 S := by
  unfold learnV
  split
  · rename_i h
    obtain ⟨h1, h2, _⟩ := h
    refine ⟨by simp [hle.1], fun i hi => ?_⟩
    rcases Kn.set hi with rfl | hi
    · exact hk h1 (by rw [← hle.1]; exact h2)
    · exact hle.2 i hi
  · exact hle
theorem learnL_in : ∀ (ks : List (List UInt8)) {known : List Bool} {more : Bool}, KLe known S → (∀ k ∈ ks, nameK (be32 k) = k → be32 k < S.length → Kn S (be32 k)) → KLe (learnL known more ks).1 S
  | [], _, _, h, _ => h
  | k :: ks, _, _, h, hk => learnL_in ks (learn_in h (hk k (by simp))) (fun u hu => hk u (by simp [hu]))
theorem learnS_in : ∀ (ks : List (List UInt8)) {known : List Bool}, KLe known S → (∀ k ∈ ks, nameK (be32 k) = k → be32 k < S.length → Kn S (be32 k)) → KLe (learnS known ks) S
  | [], _, h, _ => h
  | k :: ks, _, h, hk => learnS_in ks (learn_in h (hk k (by simp))) (fun u hu => hk u (by simp [hu]))
theorem step_in (hc : Clo ts S) {i : Nat} {x : Term} (hx : ts[i]? = some x) {known : List Bool} {more : Bool} (hle : KLe known S) : KLe (stepV ts i known more x).1 S := by
  have h1 : KLe (step1 ts i known more x).1 S := by
    unfold step1
    split
    · rename_i h
      refine ⟨by simp [hle.1], fun j hj => ?_⟩
      rcases Kn.set hj with rfl | hj
      · exact hc.made _ x hx (madeV_mono hle h.2)
      · exact hle.2 j hj
    · exact hle
  unfold stepV step2
  split
  · rename_i h
    obtain ⟨h2, h3, h4⟩ := h
    exact learnL_in _ h1 fun k hk e1 e2 => hc.opens i x hx h3 (h1.2 i h2) (hasV_mono h1 h4) k hk e1 (by rw [← hc.len]; exact e2)
  · exact h1
theorem roundG_in (hc : Clo ts S) : ∀ (xs : List Term) (i : Nat) (known : List Bool) (more : Bool), (∀ j x, xs[j]? = some x → ts[i + j]? = some x) → KLe known S → KLe (roundG ts xs i known more).1 S
  | [], _, _, _, _, h => h
  | x :: xs, i, known, more, hx, h => by
    rw [roundG]
    exact roundG_in hc xs (i + 1) _ _ (fun j y hy => by rw [show i + 1 + j = i + (j + 1) by omega]; exact hx (j + 1) y (by simpa using hy)) (step_in hc (by simpa using hx 0 x rfl) h)
theorem Rounds.in (hc : Clo ts S) {a b : List Bool} (h : Rounds ts a b) (ha : KLe a S) : KLe b S := by
  induction h with
  | refl => exact ha
  | step k' _ ih => exact roundG_in hc ts 0 _ _ (fun j x h => by simpa using h) ih
/-- NO MORE FOLLOWS than a closed set has. -/
theorem FolOk.in {seen : List (List UInt8)} {K : List Bool} (h : FolOk ts seen K) (hc : Clo ts S) (hs : ∀ k ∈ seen, nameK (be32 k) = k → be32 k < ts.length → Kn S (be32 k)) : KLe K S := by
  refine h.of.in hc (learnS_in seen ⟨by rw [List.length_replicate, hc.len], fun i hi => ?_⟩ (fun k hk e1 e2 => hs k hk e1 (by rw [← hc.len]; exact e2)))
  unfold Kn at hi
  rw [List.getD_eq_getElem?_getD, List.getElem?_replicate] at hi
  split at hi <;> simp at hi
end

/-! ### What is known stays so -/
theorem learn_up (known : List Bool) (k : List UInt8) : KLe known (learnV known k).2 := by
  unfold learnV
  split
  · exact ⟨by simp, fun i h => h.of_set⟩
  · exact KLe.refl _
theorem learnL_up : ∀ (ks : List (List UInt8)) (known : List Bool) (more : Bool), KLe known (learnL known more ks).1
  | [], _, _ => KLe.refl _
  | k :: ks, known, more => (learn_up known k).trans (learnL_up ks _ _)
theorem learnS_up : ∀ (ks : List (List UInt8)) (known : List Bool), KLe known (learnS known ks)
  | [], _ => KLe.refl _
  | k :: ks, known => (learn_up known k).trans (learnS_up ks _)
theorem step_up (ts : List Term) (i : Nat) (known : List Bool) (more : Bool) (x : Term) : KLe known (stepV ts i known more x).1 := by
  have h1 : KLe known (step1 ts i known more x).1 := by
    unfold step1; split
    · exact ⟨by simp, fun i h => h.of_set⟩
    · exact KLe.refl _
  refine h1.trans ?_
  unfold stepV step2
  split
  · exact learnL_up _ _ _
  · exact KLe.refl _
theorem roundG_up (ts : List Term) : ∀ (xs : List Term) (i : Nat) (known : List Bool) (more : Bool), KLe known (roundG ts xs i known more).1
  | [], _, _, _ => KLe.refl _
  | x :: xs, i, known, more => (step_up ts i known more x).trans (roundG_up ts xs _ _ _)
theorem Rounds.up {ts : List Term} {a b : List Bool} (h : Rounds ts a b) : KLe a b := by
  induction h with
  | refl => exact KLe.refl _
  | step k' _ ih => exact ih.trans (roundG_up ts ts 0 _ _)
theorem learn_has {known : List Bool} {k : List UInt8} (h1 : nameK (be32 k) = k) (h2 : be32 k < known.length) : Kn (learnV known k).2 (be32 k) := by
  unfold learnV
  by_cases h : known.getD (be32 k) true = false
  · rw [if_pos ⟨h1, h2, h⟩]; exact Kn.set_self h2
  · rw [if_neg (fun x => h x.2.2)]
    unfold Kn
    rw [List.getD_eq_getElem?_getD, List.getElem?_eq_getElem h2] at h ⊢
    simpa using h
theorem learnS_has (ks : List (List UInt8)) : ∀ {known : List Bool} {k : List UInt8}, k ∈ ks → nameK (be32 k) = k → be32 k < known.length → Kn (learnS known ks) (be32 k) := by
  induction ks with
  | nil => intro _ _ hk; cases hk
  | cons u ks ih =>
    intro known k hk h1 h2
    rw [learnS]
    rcases List.mem_cons.1 hk with e | hk
    · rw [← e]
      exact (learnS_up ks _).2 _ (learn_has h1 h2)
    · exact ih hk h1 (by rw [learnV_len]; exact h2)
/-- What was seen is known. -/
theorem FolOk.seen {ts : List Term} {seen : List (List UInt8)} {K : List Bool} (h : FolOk ts seen K) {k : List UInt8} (hk : k ∈ seen) (h1 : nameK (be32 k) = k) (h2 : be32 k < ts.length) : Kn K (be32 k) :=
  h.of.up.2 _ (learnS_has seen hk h1 (by rw [List.length_replicate]; exact h2))

theorem roundG_end (ts : List Term) : ∀ (xs : List Term) (i : Nat) (K : List Bool), roundG ts xs i K false = (K, false) → ∀ j x, xs[j]? = some x → stepV ts (i + j) K false x = (K, false)
  | [], _, _, _, j, x, hx => by simp at hx
  | y :: xs, i, K, h, j, x, hx => by
    rw [roundG] at h
    have hm := MoreOk.roundG ts xs (i + 1) (stepV ts i K false y).1 (stepV ts i K false y).2
    rw [h] at hm
    obtain ⟨_, _, h3⟩ := hm
    obtain ⟨e1, e2⟩ := h3 rfl
    have hs : stepV ts i K false y = (K, false) := Prod.ext e2.symm e1
    cases j with
    | zero => simp only [List.getElem?_cons_zero, Option.some.injEq] at hx; subst hx; exact hs
    | succ j =>
      rw [hs] at h
      rw [show i + (j + 1) = i + 1 + j by omega]
      exact roundG_end ts xs (i + 1) K h j x (by simpa using hx)
/-- ALL that can be made of it is known. -/
theorem FolOk.clo {ts : List Term} {seen : List (List UInt8)} {K : List Bool} (h : FolOk ts seen K) : Clo ts K := by
  have hstep := fun i x hx => roundG_end ts ts 0 K h.end_ i x hx
  refine ⟨h.len, fun i x hx hm => ?_, fun i x hx h6 hi hh k hk h1 h2 => ?_⟩
  · have := hstep i x hx
    rw [Nat.zero_add] at this
    have m1 := MoreOk.step2 i (step1 ts i K false x).1 (step1 ts i K false x).2 x
    have e : step2 i (step1 ts i K false x).1 (step1 ts i K false x).2 x = (K, false) := this
    rw [e] at m1
    obtain ⟨_, _, m3⟩ := m1
    obtain ⟨e1, e2⟩ := m3 rfl
    have hlt : i < K.length := by rw [h.len]; exact (List.getElem?_eq_some_iff.1 hx).1
    by_cases hk : K.getD i true = false
    · unfold step1 at e1
      rw [if_pos ⟨hk, hm⟩] at e1
      cases e1
    · unfold Kn
      rw [List.getD_eq_getElem?_getD, List.getElem?_eq_getElem hlt] at hk ⊢
      simpa using hk
  · have := hstep i x hx
    rw [Nat.zero_add] at this
    have e : step2 i (step1 ts i K false x).1 (step1 ts i K false x).2 x = (K, false) := this
    have m1 := MoreOk.step2 i (step1 ts i K false x).1 (step1 ts i K false x).2 x
    rw [e] at m1
    obtain ⟨_, _, m3⟩ := m1
    obtain ⟨e1, e2⟩ := m3 rfl
    simp only at e2
    rw [← e2, e1] at e
    unfold step2 at e
    rw [if_pos ⟨hi, h6, hh⟩] at e
    have hL : ∀ (ks : List (List UInt8)) (known : List Bool) (more : Bool), (learnL known more ks).2 = false → ∀ k ∈ ks, nameK (be32 k) = k → be32 k < known.length → Kn known (be32 k) := by
      intro ks
      induction ks with
      | nil => intro _ _ _ k hk; cases hk
      | cons u ks ih =>
        intro known more hf k hk h1 h2
        rw [learnL] at hf
        have ml := MoreOk.learnL ks (learnV known u).2 ((learnV known u).1 || more)
        obtain ⟨_, _, m3⟩ := ml
        obtain ⟨a, _⟩ := m3 hf
        have hu : (learnV known u).2 = known := (learnV_cnt known u).2 (by simp at a; exact a.1)
        rcases List.mem_cons.1 hk with rfl | hk
        · have := learn_has h1 h2; rwa [hu] at this
        · have := ih _ _ hf k hk h1 (by rw [hu]; exact h2); rwa [hu] at this
    exact hL _ K false (by rw [e]) k hk h1 (by rw [h.len]; exact h2)

/-! ### Sets of terms -/
/-- Those terms for which something holds. -/
noncomputable def setOf (ts : List Term) (Q : Term → Prop) : List Bool := ts.map fun x => decide (Q x)
theorem setOf_len (ts : List Term) (Q : Term → Prop) : (setOf ts Q).length = ts.length := by simp [setOf]
theorem setOf_kn {ts : List Term} {Q : Term → Prop} {i : Nat} {x : Term} (hx : ts[i]? = some x) : Kn (setOf ts Q) i ↔ Q x := by
  unfold Kn setOf
  rw [List.getD_eq_getElem?_getD, List.getElem?_map, hx]
  simp
theorem hasV_nm {ts : List Term} (hts : TsOk ts) {known : List Bool} {x : Term} {k : List UInt8} (h : Nm ts x k) : ∃ n, k = nameK n ∧ In ts x n ∧ nameK (be32 k) = k ∧ be32 k = n ∧ hasV known k = known.getD n false := by
  obtain ⟨n, rfl, hn⟩ := h
  have hl := hts.len
  have hlt := hn.lt
  have e : be32 (nameK n) = n := be32_name (by omega)
  exact ⟨n, rfl, hn, by rw [e], e, by unfold hasV; rw [e, if_pos rfl]⟩
theorem hasV_set {ts : List Term} (hts : TsOk ts) {Q : Term → Prop} {x : Term} (hx : TermOk x) {k : List UInt8} (h : Nm ts x k) : hasV (setOf ts Q) k = true ↔ Q x := by
  obtain ⟨n, rfl, hn, _, _, e⟩ := hasV_nm hts (known := setOf ts Q) h
  rw [e]
  exact setOf_kn (hn.get hts hx)
theorem pubV_set {ts : List Term} (hts : TsOk ts) {Q : Term → Prop} {x : Term} (hx : TermOk x) {k : List UInt8} (h : Nm ts x k) (hq : pubV ts (setOf ts Q) k = true) : Q x ∨ (∃ n, In ts (pubT k) n) ∧ Q (pubT k) := by
  unfold pubV at hq
  simp only [Bool.or_eq_true] at hq
  rcases hq with hq | hq
  · exact .inl ((hasV_set hts hx h).1 hq)
  · refine .inr ?_
    cases hf : findT (shapeT (pubT k)) ts 0 with
    | none => rw [hf] at hq; cases hq
    | some n =>
      rw [hf] at hq
      have hin : In ts (pubT k) n := hf
      exact ⟨⟨n, hin⟩, (setOf_kn (hin.get hts (pubT_ok h.len))).1 hq⟩
end Go.Cab

/- Secrets, plain: what is behind a step follows of nothing that is ahead of it. -/
-- TEXTS
-- KIT
namespace Go.Cab
open Classical

def txRatchet : List UInt8 := [114, 97, 116, 99, 104, 101, 116]
def txSender : List UInt8 := [115, 101, 110, 100, 101, 114]
def txMember : List UInt8 := [109, 101, 109, 98, 101, 114, 32]
def txCheck : List UInt8 := [99, 104, 101, 99, 107]
def txFirst : List UInt8 := [102, 105, 114, 115, 116]
/-- The terms of a step. -/
def rT1 (k s : List UInt8) : Term := ⟨2, txRatchet ++ [47, 49], [k, s]⟩
def rT2 (k s : List UInt8) : Term := ⟨2, txRatchet ++ [47, 50], [k, s]⟩
def senT (k : List UInt8) : Term := ⟨2, txSender, [k]⟩
def memT (it : List UInt8) (k : List UInt8) : Term := ⟨2, txMember ++ it, [k]⟩
def chkT (k : List UInt8) : Term := ⟨2, txCheck, [k]⟩
theorem rT1_ok {k s : List UInt8} (h : k.length = 32) (h' : s.length = 32) : TermOk (rT1 k s) := ⟨by simp [rT1], by simp [rT1, txRatchet], by simp [rT1], by simp [rT1, h, h']⟩
theorem rT2_ok {k s : List UInt8} (h : k.length = 32) (h' : s.length = 32) : TermOk (rT2 k s) := ⟨by simp [rT2], by simp [rT2, txRatchet], by simp [rT2], by simp [rT2, h, h']⟩
theorem senT_ok {k : List UInt8} (h : k.length = 32) : TermOk (senT k) := ⟨by simp [senT], by simp [senT, txSender], by simp [senT], by simp [senT, h]⟩
theorem chkT_ok {k : List UInt8} (h : k.length = 32) : TermOk (chkT k) := ⟨by simp [chkT], by simp [chkT, txCheck], by simp [chkT], by simp [chkT, h]⟩
theorem memT_ok {it k : List UInt8} (hi : it.length < 1000) (h : k.length = 32) : TermOk (memT it k) := ⟨by simp [memT], by simp [memT, txMember]; omega, by simp [memT], by simp [memT, h]⟩

/-- A ratchet's key or chain: of what is among those of before. -/
def RatF (B : List (List UInt8)) (x : Term) : Prop := ∃ q s, (x = rT1 q s ∨ x = rT2 q s) ∧ ((q = zk ∧ s ∈ B) ∨ q ∈ B)
/-- What came ahead (the first secret, what was made of it, ratchets' keys and chains), and a ratchet's key and chain now. -/
structure Sg (ts : List Term) (B : List (List UInt8)) (k c : List UInt8) : Prop where
  old : ∀ u ∈ B, ∃ x, TermOk x ∧ Nm ts x u ∧ (x = drawT txFirst ∨ (∃ q ∈ B, x = senT q) ∨ RatF B x)
  key : ∃ q s, TermOk (rT2 q s) ∧ Nm ts (rT2 q s) k ∧ ((q = zk ∧ s ∈ B) ∨ q ∈ B)
  chn : ∃ q s, TermOk (rT1 q s) ∧ Nm ts (rT1 q s) c ∧ ((q = zk ∧ s ∈ B) ∨ q ∈ B)
  nk : k ∉ B
  nc : c ∉ B
  box : ∀ y ∈ ts, y.kind ≠ 6
theorem Sg.l32 {ts : List Term} {B : List (List UInt8)} {k c : List UInt8} (h : Sg ts B k c) : k.length = 32 ∧ c.length = 32 ∧ ∀ u ∈ B, u.length = 32 := by
  obtain ⟨_, _, _, h1, _⟩ := h.key
  obtain ⟨_, _, _, h2, _⟩ := h.chn
  exact ⟨h1.len, h2.len, fun u hu => by obtain ⟨x, _, h3, _⟩ := h.old u hu; exact h3.len⟩
theorem Sg.mono {ts us : List Term} {B : List (List UInt8)} {k c : List UInt8} (h : Sg ts B k c) (p : ts <+: us) (hb : ∀ y ∈ us, y.kind ≠ 6) : Sg us B k c :=
  ⟨fun u hu => by obtain ⟨x, h1, h2, h3⟩ := h.old u hu; exact ⟨x, h1, h2.mono p, h3⟩, by obtain ⟨q, s, h1, h2, h3⟩ := h.key; exact ⟨q, s, h1, h2.mono p, h3⟩, by obtain ⟨q, s, h1, h2, h3⟩ := h.chn; exact ⟨q, s, h1, h2.mono p, h3⟩, h.nk, h.nc, hb⟩
theorem RatF.mono {B B' : List (List UInt8)} {x : Term} (h : RatF B x) (p : ∀ u ∈ B, u ∈ B') : RatF B' x := by
  obtain ⟨q, s, h1, h2⟩ := h
  exact ⟨q, s, h1, h2.imp (fun ⟨a, b⟩ => ⟨a, p _ b⟩) (p _)⟩
/-- A step's own terms are not among those of before. -/
theorem Sg.fresh {us : List Term} (hus : TsOk us) {B : List (List UInt8)} {k c : List UInt8} (h : Sg us B k c) {x : Term} {s u : List UInt8} (hx : x = rT1 k s ∨ x = rT2 k s) (hok : TermOk x) (hu : Nm us x u) : u ∉ B ++ [k, c] := by
  obtain ⟨q1, s1, o1, m1, f1⟩ := h.key
  obtain ⟨q2, s2, o2, m2, f2⟩ := h.chn
  have hkz : k ≠ zk := m1.nz
  have key : ∀ q s', (x = rT1 q s' ∨ x = rT2 q s') → ((q = zk ∧ s' ∈ B) ∨ q ∈ B) → False := fun q s' e f => by
    have : q = k := by rcases hx with rfl | rfl <;> rcases e with e | e <;> simp [rT1, rT2] at e <;> exact e.1.symm
    subst this
    rcases f with ⟨f, _⟩ | f
    · exact hkz f
    · exact h.nk f
  intro hm
  simp only [List.mem_append, List.mem_cons, List.not_mem_nil, or_false] at hm
  rcases hm with hm | rfl | rfl
  · obtain ⟨y, g1, g2, g3⟩ := h.old u hm
    have e := g2.inj hu hus g1 hok
    subst e
    rcases g3 with g3 | ⟨q, _, g3⟩ | ⟨q, s', g3, g4⟩
    · rcases hx with rfl | rfl <;> simp [rT1, rT2, drawT] at g3
    · rcases hx with rfl | rfl <;> simp [rT1, rT2, senT, txRatchet, txSender] at g3
    · exact key q s' g3 g4
  · have e := m1.inj hu hus o1 hok
    exact key q1 s1 (.inr e.symm) f1
  · have e := m2.inj hu hus o2 hok
    exact key q2 s2 (.inl e.symm) f2
theorem Sg.next {us : List Term} (hus : TsOk us) {B : List (List UInt8)} {k c s k' c' : List UInt8} (h : Sg us B k c) (hs : s.length = 32) (hk : Nm us (rT2 k s) k') (hc : Nm us (rT1 k s) c') : Sg us (B ++ [k, c]) k' c' := by
  obtain ⟨l1, l2, l3⟩ := h.l32
  have hin : ∀ u ∈ B, u ∈ B ++ [k, c] := fun u hu => by simp [hu]
  refine ⟨fun u hu => ?_, ⟨k, s, rT2_ok l1 hs, hk, .inr (by simp)⟩, ⟨k, s, rT1_ok l1 hs, hc, .inr (by simp)⟩, h.fresh hus (.inr rfl) (rT2_ok l1 hs) hk, h.fresh hus (.inl rfl) (rT1_ok l1 hs) hc, h.box⟩
  simp only [List.mem_append, List.mem_cons, List.not_mem_nil, or_false] at hu
  rcases hu with hu | rfl | rfl
  · obtain ⟨x, g1, g2, g3⟩ := h.old u hu
    exact ⟨x, g1, g2, g3.imp id (Or.imp (fun ⟨q, hq, e⟩ => ⟨q, hin q hq, e⟩) (fun r => r.mono hin))⟩
  · obtain ⟨q, s', g1, g2, g3⟩ := h.key
    exact ⟨_, g1, g2, .inr (.inr ⟨q, s', .inr rfl, g3.imp (fun ⟨a, b⟩ => ⟨a, hin _ b⟩) (hin _)⟩)⟩
  · obtain ⟨q, s', g1, g2, g3⟩ := h.chn
    exact ⟨_, g1, g2, .inr (.inr ⟨q, s', .inl rfl, g3.imp (fun ⟨a, b⟩ => ⟨a, hin _ b⟩) (hin _)⟩)⟩
theorem zk_none {n : Nat} : nameK n ≠ zk := name_nz n
/-- NONE OF IT FOLLOWS of keys that are not among it. -/
theorem Sg.hides {ts : List Term} (hts : TsOk ts) {B : List (List UInt8)} {k c : List UInt8} (h : Sg ts B k c) {seen : List (List UInt8)} (hs : ∀ u ∈ seen, u = zk ∨ ((∃ x, TermOk x ∧ Nm ts x u) ∧ u ∉ B)) {K : List Bool} (hK : FolOk ts seen K) : ∀ u ∈ B, hasV K u = false := by
  have nB : ∀ q ∈ B, ¬ hasV (setOf ts fun y => ¬ ∃ k ∈ B, Nm ts y k) q = true := fun q hq hh => by
    obtain ⟨z, g1, g2, _⟩ := h.old q hq
    exact (hasV_set hts g1 g2).1 hh ⟨q, hq, g2⟩
  have hclo : Clo ts (setOf ts fun y => ¬ ∃ k ∈ B, Nm ts y k) := by
    refine ⟨setOf_len _ _, fun i y hy hmd => (setOf_kn hy).2 ?_, fun i y hy h6 _ _ k hk => absurd h6 (h.box y (List.mem_of_getElem? hy))⟩
    rintro ⟨k, hk, hn⟩
    obtain ⟨z, h1, h2, h3⟩ := h.old k hk
    have e := h2.inj hn hts h1 (hts.ok y (List.mem_of_getElem? hy))
    subst e
    have made : ∀ (t : List UInt8) (ks : List (List UInt8)), z = ⟨2, t, ks⟩ → ∀ q ∈ ks, hasV (setOf ts fun y => ¬ ∃ k ∈ B, Nm ts y k) q = true := fun t ks e q hq => by
      subst e
      unfold madeV at hmd
      simp only [show ¬ ((2 : Nat) = 1) by omega, show ¬ ((2 : Nat) = 4) by omega, if_false, List.all_eq_true] at hmd
      exact hmd q hq
    rcases h3 with h3 | ⟨q, hq, h3⟩ | ⟨q, s, h3, h4⟩
    · subst h3
      unfold madeV at hmd
      simp [drawT] at hmd
    · exact nB q hq (made _ _ h3 q (by simp))
    · have hm : ∀ u ∈ [q, s], hasV (setOf ts fun y => ¬ ∃ k ∈ B, Nm ts y k) u = true := by
        rcases h3 with h3 | h3 <;> exact made _ _ h3
      rcases h4 with ⟨_, h4⟩ | h4
      · exact nB s h4 (hm s (by simp))
      · exact nB q h4 (hm q (by simp))
  have hle := hK.in hclo fun u hu e1 e2 => by
    rcases hs u hu with rfl | ⟨⟨x, h1, h2⟩, h3⟩
    · exact absurd e1 zk_none
    · obtain ⟨n, _, hi, _, e, _⟩ := hasV_nm hts (known := K) h2
      rw [e]
      refine (setOf_kn (hi.get hts h1)).2 ?_
      rintro ⟨k', hk, hn⟩
      exact h3 (by rw [h2.fun hn]; exact hk)
  intro u hu
  cases hb : hasV K u with
  | false => rfl
  | true => exact absurd (hasV_mono hle hb) (nB u hu)
/-- A member's secret is not among what came ahead. -/
theorem Sg.mem {ts : List Term} (hts : TsOk ts) {B : List (List UInt8)} {k c : List UInt8} (h : Sg ts B k c) {it s u : List UInt8} (hok : TermOk (memT it s)) (hu : Nm ts (memT it s) u) : u ∉ B := fun hm => by
  obtain ⟨y, g1, g2, g3⟩ := h.old u hm
  have e := g2.inj hu hts g1 hok
  subst e
  rcases g3 with g3 | ⟨q, _, g3⟩ | ⟨q, s', g3, _⟩
  · simp [memT, drawT] at g3
  · simp [memT, senT, txMember, txSender] at g3
  · rcases g3 with g3 | g3 <;> simp [memT, rT1, rT2, txMember, txRatchet] at g3
end Go.Cab

/- Secrets, plain: what a seed makes; made again it is the same. -/
-- TEXTS
-- KIT
namespace Go.Cab
open Classical

/-- A member's secret, the chain and the key behind the step, and the table. -/
def updV (ts : List Term) (it k seed : List UInt8) : List UInt8 × List UInt8 × List UInt8 × List Term :=
  let t1 := putT ts (memT it seed)
  let t2 := putT t1 (senT seed)
  let n := twoV t2 txRatchet [k, nameK (putN t1 (senT seed))]
  (nameK (putN ts (memT it seed)), n.1.1, n.1.2, n.2)
/-- .. and what is checked by. -/
structure Upd (ts us : List Term) (it k seed m s c' k' chk : List UInt8) : Prop where
  tok : TsOk us
  len : us.length ≤ ts.length + 5
  pre : ts <+: us
  mem : Nm us (memT it seed) m
  sen : Nm us (senT seed) s
  chn : Nm us (rT1 k s) c'
  key : Nm us (rT2 k s) k'
  chk : Nm us (chkT c') chk
  kinds : (∀ y ∈ ts, y.kind ≠ 6) → ∀ y ∈ us, y.kind ≠ 6
theorem Upd.again {ts us : List Term} {it k seed m s c' k' chk : List UInt8} (h : Upd ts us it k seed m s c' k' chk) : updV us it k seed = (m, c', k', us) := by
  unfold updV twoV
  simp only [h.mem.putT, h.mem.putN, h.sen.putT, h.sen.putN]
  have h1 : Nm us ⟨2, txRatchet ++ [47, 49], [k, s]⟩ c' := h.chn
  have h2 : Nm us ⟨2, txRatchet ++ [47, 50], [k, s]⟩ k' := h.key
  rw [h1.putT, h1.putN, h2.putT, h2.putN]
theorem upd_law {ts : List Term} (hts : TsOk ts) (hl : ts.length + 20 < 90000) {it k seed : List UInt8} (hi : it.length < 1000) (hk : k.length = 32) (hs : seed.length = 32) {m c' k' : List UInt8} {t3 : List Term} (h : updV ts it k seed = (m, c', k', t3)) :
    ∃ s, Upd ts (putT t3 (chkT c')) it k seed m s c' k' (nameK (putN t3 (chkT c'))) ∧ m.length = 32 ∧ c'.length = 32 ∧ k'.length = 32 ∧ t3.length ≤ ts.length + 4 := by
  have wf : ∀ (t : List UInt8) (ks : List (List UInt8)), WfT ⟨2, t, ks⟩ := fun t ks => ⟨by simp, by simp⟩
  have a1 := putT_len ts (memT it seed)
  have b1 := hts.put (memT_ok hi hs) (wf _ _) (by omega)
  have c1 := Nm.put ts (memT it seed)
  have d1 := put_pre ts (memT it seed)
  have e1 : ∀ y ∈ putT ts (memT it seed), y ∈ ts ∨ y.kind = 2 := fun y hy => (mem_put hy).imp id (fun e => by subst e; rfl)
  unfold updV at h
  simp only [Prod.mk.injEq] at h
  obtain ⟨h1, h2, h3, h4⟩ := h
  rw [h1] at c1
  generalize putT ts (memT it seed) = t1 at *
  have a2 := putT_len t1 (senT seed)
  have b2 := b1.put (senT_ok hs) (wf _ _) (by omega)
  have c2 := Nm.put t1 (senT seed)
  have d2 := put_pre t1 (senT seed)
  have e2 : ∀ y ∈ putT t1 (senT seed), y ∈ t1 ∨ y.kind = 2 := fun y hy => (mem_put hy).imp id (fun e => by subst e; rfl)
  generalize nameK (putN t1 (senT seed)) = s at *
  generalize putT t1 (senT seed) = t2 at *
  have hsl := c2.len
  unfold twoV at h2 h3 h4
  simp only at h2 h3 h4
  have a3 := putT_len t2 (rT1 k s)
  have b3 := b2.put (rT1_ok hk hsl) (wf _ _) (by omega)
  have c3 := Nm.put t2 (rT1 k s)
  have d3 := put_pre t2 (rT1 k s)
  have e3 : ∀ y ∈ putT t2 (rT1 k s), y ∈ t2 ∨ y.kind = 2 := fun y hy => (mem_put hy).imp id (fun e => by subst e; rfl)
  rw [show nameK (putN t2 (rT1 k s)) = c' from h2] at c3
  have h3' : nameK (putN (putT t2 (rT1 k s)) (rT2 k s)) = k' := h3
  have h4' : putT (putT t2 (rT1 k s)) (rT2 k s) = t3 := h4
  clear h2 h3 h4
  generalize putT t2 (rT1 k s) = t2' at *
  have a4 := putT_len t2' (rT2 k s)
  have b4 := b3.put (rT2_ok hk hsl) (wf _ _) (by omega)
  have c4 := Nm.put t2' (rT2 k s)
  have d4 := put_pre t2' (rT2 k s)
  have e4 : ∀ y ∈ putT t2' (rT2 k s), y ∈ t2' ∨ y.kind = 2 := fun y hy => (mem_put hy).imp id (fun e => by subst e; rfl)
  rw [h3'] at c4
  rw [h4'] at a4 b4 c4 d4 e4
  have hc := c3.len
  have a5 := putT_len t3 (chkT c')
  have b5 := b4.put (chkT_ok hc) (wf _ _) (by omega)
  have c5 := Nm.put t3 (chkT c')
  have d5 := put_pre t3 (chkT c')
  have e5 : ∀ y ∈ putT t3 (chkT c'), y ∈ t3 ∨ y.kind = 2 := fun y hy => (mem_put hy).imp id (fun e => by subst e; rfl)
  refine ⟨s, ⟨b5, by omega, (((d1.trans d2).trans d3).trans d4).trans d5, (((c1.mono d2).mono d3).mono d4).mono d5, ((c2.mono d3).mono d4).mono d5, (c3.mono d4).mono d5, c4.mono d5, c5, fun hk y hy => ?_⟩, c1.len, hc, c4.len, by omega⟩
  rcases e5 y hy with hy | hy
  · rcases e4 y hy with hy | hy
    · rcases e3 y hy with hy | hy
      · rcases e2 y hy with hy | hy
        · rcases e1 y hy with hy | hy
          · exact hk y hy
          · omega
        · omega
      · omega
    · omega
  · omega
end Go.Cab

/- Chain: what it calls: Clone of waits, known, say; the table's Seal and Mark. -/
-- TEXTS
-- KIT
namespace Go.Cab
open Go.RowKit
open Classical
def fb521 : AC := (.seq (.reg [⟨(.some 2), .none, (.mov (.const (.slice .none 0 0))), [], .none⟩]) (.seq (.seq (.reg [⟨(.some 3), .none, (.mov (.tmp 0)), [], .none⟩, ⟨(.some 4), .none, (.ef (.isnil .false) [(.tmp 3)]), [], .none⟩]) (.cond (.tmp 4) (.seq (.reg [⟨(.some 2), .none, (.mov (.const (.slice .none 0 0))), [], .none⟩]) .ret) .skip)) (.seq (.reg [⟨(.some 5), .none, (.ef (.bown 83 65 (.st [32, 1, 32] [(.arr 1 (List.replicate 32 (.lit (bn 0)))), (.lit (jn 0)), (.arr 1 (List.replicate 32 (.lit (bn 0))))]) 0 []) []), [], .none⟩, ⟨(.some 6), .none, (.mov (.tmp 0)), [], .none⟩, ⟨(.some 7), .none, (.append 83 65 72 (.tmp 5) (.tmp 6)), [], .none⟩, ⟨(.some 2), .none, (.mov (.tmp 7)), [], .none⟩]) .ret)))
def fc521 : FC := ⟨1, 8, [(.tmp 2)], fb521⟩
theorem fc521_eq : compF Go.Proofs.Tryd.prog 29 = some fc521 := by kernel_rfl

theorem areg_b2sv {P : Program} {s : AS} {K : AS → Prop} {xs : List AOp} {d : Option Tmp} {x : Operand} {u : AV} {a : List UInt8} (ex : s.ev x = u) (hx : listB s.blk 1 u = some (bl a)) (h1 : u.isLit = false)
    (h : AReg P xs (s.put d (.lit (tx a))) K) : AReg P (⟨d, none, .rd .b2sv [x], [], none⟩ :: xs) s K := by
  refine AOp.ex_go (s' := s.put d (.lit (tx a))) ?_ h
  have hro : (AOp.ro ⟨d, none, .rd .b2sv [x], [], none⟩ s.nr) = tt := by funext b; rfl
  have hb : (fun b => if tt b then s.blk b else none) = s.blk := by funext b; rfl
  have e : rdB s.blk .b2sv [u] = some (.lit (tx a)) := by
    simp only [rdB, hx, Option.bind_some, bytes_bl, h1, Option.map_some, strOf_bl]
    rfl
  simp only [AOp.ex, AOp.ex0, AOp.mineB, if_true, ex_rd, List.map_cons, List.map_nil, ex, hro, hb, e, Option.map_some]

set_option maxHeartbeats 1000000 in
theorem cloneW_row (els : List AV) (hn : els.length < 100000) : PCall Go.Proofs.Tryd.prog 29 [.sl 65 els] (.row 83 65 els) := by
  have h521 := fc521_eq
  refine PCall.of h521 rfl ?_; show AC.wp _ fb521 (AS.init [.sl 65 els] 1 8) (fun x s => match x with | .exit _ => False | _ => Fin [(.tmp 2)] s _); unfold fb521 AS.init
  refine wp_sr (by simp [push_cast]; exact rfl) ?_
  refine wp_seq' (wp_seq' (wp_rg ?_))
  refine areg_run 1 (by simp [push_cast]; exact rfl) ?_
  refine areg_nils rfl fun b hb => areg_nil ?_
  cases b with
  | true =>
    obtain rfl := hb rfl
    refine wp_cond_t rfl (wp_sr (by simp [push_cast]; exact rfl) (wp_ret' ?_))
    exact ⟨2, rfl, .inl ⟨rfl, rfl⟩⟩
  | false =>
    refine wp_cond_f rfl (wp_skip' (wp_sg ?_))
    refine areg_bown (vs := []) (els := []) rfl rfl (by intro t ht; cases ht) fun V => ?_
    refine areg_run 1 (by simp [push_cast]; exact rfl) ?_
    refine areg_ap (ys := els) rfl rfl (by simp [AS.ev, AS.coe]) (by simp [maxLen]; omega) (by simp; omega) fun V' => areg_end (by simp [push_cast]; exact rfl) (wp_ret' ?_)
    exact fin_row rfl rfl
theorem cloneW_call (els : List AV) (hn : els.length < 100000) : PCall Go.Proofs.Tryd.prog 29 [.sl 65 els] (.val (.sl 65 els)) := (cloneW_row els hn).sealed

/-! ### What one knows -/
structure Rat where
  known : Bool
  open_ : Bool
  key : List UInt8
  chain : List UInt8
def ratA (r : Rat) : AV := .st [1, 1, 32, 32] [.lit (.bool r.known), .lit (.bool r.open_), keyA r.key, keyA r.chain]
def keysA (rs : List Rat) (ws : List AV) : AV := .st [528, 1] [.arr 66 (rs.map ratA), .sl 65 ws]
def rat0 : Rat := ⟨false, false, zk, zk⟩
def key2 : List UInt8 := 2 :: List.replicate 31 0
def key1 : List UInt8 := 1 :: List.replicate 31 0
def ratK (k : List UInt8) : Rat := ⟨true, false, key2, k⟩
def knownR (k : List UInt8) : List Rat := [rat0, ratK k, rat0, rat0, rat0, rat0, rat0, rat0]

/-- The table's Put, as a call of the kit. -/
theorem put_k {H : List (Option Blk)} {t : Tb} {V0 : Value} {ts0 ts : List Term} (hh : TbOk H t V0 ts0) (hn : ts.length < 100000) (x : Term) (hx : TermOk x) : KC Go.Proofs.Tryd.prog 22 [.ptr t.b t.l 0 [], .lit (jn x.kind), .lit (tx x.text), .sl 32 (klA x.keys)] H t ts (keyA (nameK (putN ts x))) (putT ts x) :=
  KC.of hh fun H V h => put_call h hn x hx

def sealT (k b s : List UInt8) : Term := ⟨6, s, [k, b]⟩

/-! ### Operations of the statement -/
def sayO (n : Nat) (m : List UInt8) : OpV := ⟨1, n, [key1], 7, [], zk, zk, m, [⟨2, zk, 0, 0, []⟩]⟩

theorem AVle.nilS (esz : Nat) : AVle (.lit (.slice none 0 0)) (.sl esz []) := fun Imm w cs h => by
  cases h with | lit _ hs => exact .slnil esz
theorem PCall.relLe {P : Program} {f : FuncId} {args : List AV} {r r' : AV} (h : PCall P f args (.val r)) (hr : RelLe r r') (hn : r' ≠ .any) : PCall P f args (.val r') := fun w St Vs a b => by
  refine Calls.mono (h w St Vs a b) fun e w' ⟨V, Imm, h1, h2, h3, h4⟩ => ⟨V, Imm, h1, h2, h3, ?_⟩
  exact ⟨hr _ _ _ h4.1, hn⟩

theorem fill_st {s : AS} {ns : List Nat} {fs : List AV} {i n : Nat} {x : Operand} {rest : List (Nat × Operand)} {v f : AV} {out : Option AV} (hv : s.ev x = v) (hs : ns[i]? = some n) (hf : fs[i]? = some f) (ht : v.isTup = false) (hz : v.sz = n) (h : fillAV s (.st ns (fs.set i v)) rest = out) : fillAV s (.st ns fs) ((i, x) :: rest) = out := by
  subst h
  rw [fillAV]
  simp only [AV.sub, hs, hf, hv, ht, hz, and_self, if_true]
  rw [AV.upd, AV.upd]
theorem fill_ar {s : AS} {n : Nat} {fs : List AV} {i : Nat} {x : Operand} {rest : List (Nat × Operand)} {v f : AV} {out : Option AV} (hv : s.ev x = v) (hf : fs[i]? = some f) (ht : v.isTup = false) (hz : v.sz = n) (h : fillAV s (.arr n (fs.set i v)) rest = out) : fillAV s (.arr n fs) ((i, x) :: rest) = out := by
  subst h
  rw [fillAV]
  simp only [AV.sub, hf, hv, ht, hz, and_self, if_true]
  rw [AV.upd, AV.upd]
theorem areg_bd {P : Program} {s : AS} {K : AS → Prop} {xs : List AOp} {d : Option Tmp} {z z' : AV} {parts : List (Nat × Operand)} {fo : List Tmp} {ow : Option Tmp} (hf : fillAV s z parts = some z') (h : AReg P xs (s.put d z') K) : AReg P (⟨d, none, .build z parts, fo, ow⟩ :: xs) s K := by
  refine AOp.ex_go (s' := s.put d z') ?_ h
  simp only [AOp.ex, AOp.ex0, AOp.mineB, if_true, ex_build, hf, Option.map_some]
theorem areg_bsl {P : Program} {s : AS} {K : AS → Prop} {xs : List AOp} {d : Option Tmp} {esz n k : Nat} {z : AV} {els : List AV} {parts : List (Nat × Operand)} {fo : List Tmp} {ow : Option Tmp} (hf : fillAV s (.arr esz (List.replicate n z)) parts = some (.arr k els)) (h : AReg P xs (s.put d (.sl esz els)) K) : AReg P (⟨d, none, .bslice esz z n parts, fo, ow⟩ :: xs) s K := by
  refine AOp.ex_go (s' := s.put d (.sl esz els)) ?_ h
  simp only [AOp.ex, AOp.ex0, AOp.mineB, if_true, ex_bslice, hf, Option.map_some]

def r0A : AV := ratA rat0
theorem r0A_sz : r0A.sz = 66 := rfl
theorem r0A_agg : r0A.isAgg = true := rfl
theorem r0A_tup : r0A.isTup = false := rfl
theorem ratA_sz {r : Rat} (h1 : r.key.length = 32) (h2 : r.chain.length = 32) : (ratA r).sz = 66 := by simp [ratA, AV.sz, keyA, h1, h2]
theorem ratA_agg (r : Rat) : (ratA r).isAgg = true := rfl
theorem ratA_tup (r : Rat) : (ratA r).isTup = false := rfl

end Go.Cab

/- Chain: next. -/
-- TEXTS
-- KIT
namespace Go.Cab
open Go.RowKit
open Classical

theorem RelLe.tup {l m : List AV} (h : AVle (.tup l) (.tup m)) : RelLe (.tup l) (.tup m) := fun Imm w V hr => by
  rcases hr with hr | ⟨cs, hr, e⟩
  · cases hr
  · exact .inr ⟨cs, h _ _ _ hr, e⟩
theorem AVle.tupSt {ns : List Nat} {fs fs' vs vs' : List AV} (h : AVle (.st ns fs) (.st ns fs')) (k : AVle (.tup vs) (.tup vs')) : AVle (.tup (.st ns fs :: vs)) (.tup (.st ns fs' :: vs')) := fun Imm w cs hr => by
  cases hr with
  | tup1 _ _ c d h1 h2 => exact .tup1 (.st ns fs') vs' c d (h _ _ _ h1) (k _ _ _ h2)
theorem AVle.tupC {v : AV} {vs vs' : List AV} (k : AVle (.tup vs) (.tup vs')) : AVle (.tup (v :: vs)) (.tup (v :: vs')) := fun Imm w cs hr => by
  cases hr with
  | tup1 _ _ c d h1 h2 => exact .tup1 v vs' c d h1 (k _ _ _ h2)

theorem KC.args {P : Program} {f : FuncId} {vs vs' : List AV} {H : List (Option Blk)} {t : Tb} {ts ts' : List Term} {r : AV} (hl : ArgLe vs vs') (h : KC P f vs' H t ts r ts') : KC P f vs H t ts r ts' := fun V L => XCall.args hl (h V L)
def txSay : List UInt8 := [115, 97, 121]
theorem txSay_len : txSay.length = 3 := rfl
theorem tx_say : Value.string ⟨⟨[115, 97, 121]⟩⟩ = tx txSay := rfl
def ksA (A ws : List AV) : AV := .st [528, 1] [.arr 66 A, .sl 65 ws]
def ks0 : AV := .st [528, 1] [.arr 66 [r0A, r0A, r0A, r0A, r0A, r0A, r0A, r0A], .lit (.slice none 0 0)]
theorem ks0_le : AVle ks0 (ksA [r0A, r0A, r0A, r0A, r0A, r0A, r0A, r0A] []) := AVle.st1 (AVle.refl _) (AVle.st1 (AVle.nilS 65) AVle.st0)
theorem two_k {H : List (Option Blk)} {t : Tb} {V0 : Value} {ts0 ts : List Term} (hh : TbOk H t V0 ts0) (hn : ts.length + 1 < 100000) {s : List UInt8} (hs : s.length < 90000) {ks : List (List UInt8)} (hk : ks.length < 100000) (h32 : ∀ k ∈ ks, k.length = 32) :
    KC Go.Proofs.Tryd.prog 78 [freeI t.b t.l, .lit (tx s), .sl 32 (klA ks)] H t ts (.tup [keyA (twoV ts s ks).1.1, keyA (twoV ts s ks).1.2]) (twoV ts s ks).2 := KC.of hh fun H V h => two_call h hn hs hk h32

/-- What one's next message is sealed by, and what is kept. -/
def nextV (ts : List Term) (c : List UInt8) : (List UInt8 × List UInt8) × List Term := twoV ts txSay [c]
theorem tgt_two (x y z : AV) : tgtA Go.Proofs.Tryd.prog (.dir 78) [x, y, z] = some (78, [x, y, z]) := by kernel_rfl

end Go.Cab

/- Secrets: the blocks of what somebody knows while an operation is done to it; calls upon it, in one form. -/
-- TEXTS
-- KIT
namespace Go.Cab
open Go.RowKit
open Classical

/-- A member's secret that waits. -/
structure WaitV where
  of_ : List UInt8
  who : Int
  key : List UInt8
def waitA (w : WaitV) : AV := .st [32, 1, 32] [keyA w.of_, .lit (ji w.who), keyA w.key]
/-- What somebody knows while an operation is done to it. -/
structure StV where
  rats : List Rat
  waits : List WaitV
  me : Int
  id : List UInt8
  o : OpV
  of_ : OpV
  got : List (List UInt8)
/-- Where it lies. -/
structure Sb where
  b : Nat
  l : Nat × Nat
  c : Nat
def stA (t : Tb) (S : Sb) (x : StV) (Vc : Value) : AV := .st [1, 529, 1, 32, 71, 71, 1] [freeI t.b t.l, .st [528, 1] [.arr 66 (x.rats.map ratA), .own S.c Vc], .lit (ji x.me), keyA x.id, opA x.o, opA x.of_, .sl 32 (klA x.got)]
def sbk (t : Tb) (S : Sb) (x : StV) (Vc : Value) : Blk := .box S.l 706 (stA t S x Vc)
def swk (x : StV) (Vc : Value) : Blk := .row 83 Vc 65 (x.waits.map waitA) 0
structure StOk (H : List (Option Blk)) (t : Tb) (S : Sb) (x : StV) (Vc : Value) : Prop where
  bc : S.b ≠ S.c
  nb : S.b ≠ t.b ∧ S.b ≠ t.j ∧ S.b ≠ t.m
  nc : S.c ≠ t.b ∧ S.c ≠ t.j ∧ S.c ≠ t.m
  hb : H[S.b]? = some (some (sbk t S x Vc))
  hc : H[S.c]? = some (some (swk x Vc))
def stB (H : List (Option Blk)) (S : Sb) (Y Z : Blk) : List (Option Blk) := (H.set S.b (some Y)).set S.c (some Z)
def stOf (H : List (Option Blk)) (t : Tb) (S : Sb) (x : StV) (Vc : Value) : List (Option Blk) := stB H S (sbk t S x Vc) (swk x Vc)
section
variable {H : List (Option Blk)} {t : Tb} {S : Sb} {x x' : StV} {V Vc : Value} {ts : List Term}
theorem stOf_len (H : List (Option Blk)) (t : Tb) (S : Sb) (x : StV) (Vc : Value) : (stOf H t S x Vc).length = H.length := by simp [stOf, stB]
theorem StOk.lb (h : StOk H t S x Vc) : S.b < H.length := (List.getElem?_eq_some_iff.1 h.hb).1
theorem StOk.lc (h : StOk H t S x Vc) : S.c < H.length := (List.getElem?_eq_some_iff.1 h.hc).1
theorem StOk.self (h : StOk H t S x Vc) : stOf H t S x Vc = H := by
  unfold stOf stB
  rw [set_same h.hb, set_same h.hc]
theorem StOk.of (h : StOk H t S x Vc) (x' : StV) (V' : Value) : StOk (stOf H t S x' V') t S x' V' :=
  ⟨h.bc, h.nb, h.nc, by simp [stOf, stB, h.lb, h.bc.symm], by simp [stOf, stB, h.lc]⟩
theorem StOk.of_of (h : StOk H t S x Vc) (x1 x2 : StV) (V1 V2 : Value) : stOf (stOf H t S x1 V1) t S x2 V2 = stOf H t S x2 V2 := by
  unfold stOf stB
  rw [List.set_comm _ _ h.bc.symm, List.set_set, List.set_set]
theorem StOk.app (h : StOk H t S x Vc) (R : List (Option Blk)) : StOk (H ++ R) t S x Vc :=
  ⟨h.bc, h.nb, h.nc, by rw [List.getElem?_append_left h.lb]; exact h.hb, by rw [List.getElem?_append_left h.lc]; exact h.hc⟩
theorem StOk.of_app (h : StOk H t S x Vc) (R : List (Option Blk)) (x' : StV) (V' : Value) : stOf (H ++ R) t S x' V' = stOf H t S x' V' ++ R := by
  unfold stOf stB
  rw [List.set_append_left _ _ h.lb, List.set_append_left _ _ (by simpa using h.lc)]
theorem StOk.tb (h : StOk H t S x Vc) (hh : TbOk H t V ts) (x' : StV) (V' : Value) : TbOk (stOf H t S x' V') t V ts := by
  obtain ⟨a1, a2, a3⟩ := h.nb
  obtain ⟨b1, b2, b3⟩ := h.nc
  refine ⟨hh.bj, hh.bm, hh.jm, ?_, ?_, ?_⟩ <;> unfold stOf stB
  · rw [List.getElem?_set_ne b1, List.getElem?_set_ne a1]; exact hh.hb
  · rw [List.getElem?_set_ne b2, List.getElem?_set_ne a2]; exact hh.hj
  · rw [List.getElem?_set_ne b3, List.getElem?_set_ne a3]; exact hh.hm
/-- Another table beside it. -/
theorem StOk.tbOf (h : StOk H t S x Vc) (V' : Value) (ts' : List Term) : StOk (tbOf H t V' ts') t S x Vc := by
  obtain ⟨a1, a2, a3⟩ := h.nb
  obtain ⟨b1, b2, b3⟩ := h.nc
  refine ⟨h.bc, h.nb, h.nc, ?_, ?_⟩ <;> unfold Cab.tbOf
  · rw [List.getElem?_set_ne a3.symm, List.getElem?_set_ne a2.symm, List.getElem?_set_ne a1.symm]; exact h.hb
  · rw [List.getElem?_set_ne b3.symm, List.getElem?_set_ne b2.symm, List.getElem?_set_ne b1.symm]; exact h.hc
theorem StOk.comm (h : StOk H t S x Vc) (V' : Value) (ts' : List Term) (x' : StV) (Vc' : Value) : stOf (Cab.tbOf H t V' ts') t S x' Vc' = Cab.tbOf (stOf H t S x' Vc') t V' ts' := by
  obtain ⟨a1, a2, a3⟩ := h.nb
  obtain ⟨b1, b2, b3⟩ := h.nc
  unfold stOf stB Cab.tbOf
  rw [List.set_comm _ _ a3.symm, List.set_comm _ _ a2.symm, List.set_comm _ _ a1.symm, List.set_comm _ _ b3.symm, List.set_comm _ _ b2.symm, List.set_comm _ _ b1.symm]
end

/-- A call upon it, by a caller with the table and it among its blocks. -/
def SC (P : Program) (f : FuncId) (vs : List AV) (H : List (Option Blk)) (t : Tb) (S : Sb) (x : StV) (ts : List Term) (r : AV) (x' : StV) (ts' : List Term) : Prop :=
  ∀ V Vc L, XCall P f vs (tbOf (stOf H t S x Vc) t V ts ++ L) fun r' H' => r' = r ∧ ∃ V' Vc', H' = tbOf (stOf H t S x' Vc') t V' ts' ++ L
/-- The blocks of both. -/
structure StT (H : List (Option Blk)) (t : Tb) (S : Sb) (x : StV) (Vc V : Value) (ts : List Term) : Prop where
  tb : TbOk H t V ts
  st : StOk H t S x Vc
section
variable {H : List (Option Blk)} {t : Tb} {S : Sb} {x x' : StV} {V Vc : Value} {ts ts' : List Term}
theorem StT.of (h : StT H t S x Vc V ts) (x' : StV) (Vc' V' : Value) (ts' : List Term) : StT (tbOf (stOf H t S x' Vc') t V' ts') t S x' Vc' V' ts' :=
  ⟨(h.st.tb h.tb x' Vc').of V' ts', (h.st.of x' Vc').tbOf V' ts'⟩
theorem StT.app (h : StT H t S x Vc V ts) (R : List (Option Blk)) : StT (H ++ R) t S x Vc V ts := ⟨h.tb.app R, h.st.app R⟩
theorem StT.self (h : StT H t S x Vc V ts) : tbOf (stOf H t S x Vc) t V ts = H := by rw [h.st.self, h.tb.self]
theorem StT.len (H : List (Option Blk)) (t : Tb) (S : Sb) (x : StV) (Vc V : Value) (ts : List Term) : (tbOf (stOf H t S x Vc) t V ts).length = H.length := by rw [tbOf_len, stOf_len]
theorem StT.of_of (h : StT H t S x Vc V ts) (x1 x2 : StV) (Vc1 Vc2 V1 V2 : Value) (ts1 ts2 : List Term) : tbOf (stOf (tbOf (stOf H t S x1 Vc1) t V1 ts1) t S x2 Vc2) t V2 ts2 = tbOf (stOf H t S x2 Vc2) t V2 ts2 := by
  rw [(h.st.of x1 Vc1).comm, h.st.of_of, (h.st.tb h.tb x2 Vc2).of_of]
theorem StT.of_app (h : StT H t S x Vc V ts) (R : List (Option Blk)) (x' : StV) (Vc' V' : Value) (ts' : List Term) : tbOf (stOf (H ++ R) t S x' Vc') t V' ts' = tbOf (stOf H t S x' Vc') t V' ts' ++ R := by
  rw [h.st.of_app, (h.st.tb h.tb x' Vc').of_app]
theorem stB_len (H : List (Option Blk)) (S : Sb) (Y Z : Blk) (t : Tb) (V : Value) (ts : List Term) : (tbOf (stB H S Y Z) t V ts).length = H.length := by rw [tbOf_len]; simp [stB]
theorem StT.gb (h : StT H t S x Vc V ts) (Y Z : Blk) (V' : Value) (ts' : List Term) (L : List (Option Blk)) : (tbOf (stB H S Y Z) t V' ts' ++ L)[S.b]? = some (some Y) := by
  obtain ⟨a1, a2, a3⟩ := h.st.nb
  rw [List.getElem?_append_left (by rw [stB_len]; exact h.st.lb)]
  unfold tbOf stB
  rw [List.getElem?_set_ne a3.symm, List.getElem?_set_ne a2.symm, List.getElem?_set_ne a1.symm, List.getElem?_set_ne h.st.bc.symm, List.getElem?_set_self h.st.lb]
theorem StT.gc (h : StT H t S x Vc V ts) (Y Z : Blk) (V' : Value) (ts' : List Term) (L : List (Option Blk)) : (tbOf (stB H S Y Z) t V' ts' ++ L)[S.c]? = some (some Z) := by
  obtain ⟨a1, a2, a3⟩ := h.st.nc
  rw [List.getElem?_append_left (by rw [stB_len]; exact h.st.lc)]
  unfold tbOf stB
  rw [List.getElem?_set_ne a3.symm, List.getElem?_set_ne a2.symm, List.getElem?_set_ne a1.symm, List.getElem?_set_self (by simpa using h.st.lc)]
theorem StT.gbs (h : StT H t S x Vc V ts) (Y Y' Z : Blk) (V' : Value) (ts' : List Term) (L : List (Option Blk)) : (tbOf (stB H S Y Z) t V' ts' ++ L).set S.b (some Y') = tbOf (stB H S Y' Z) t V' ts' ++ L := by
  obtain ⟨a1, a2, a3⟩ := h.st.nb
  rw [List.set_append_left _ _ (by rw [stB_len]; exact h.st.lb)]
  unfold tbOf stB
  rw [List.set_comm _ _ a3.symm, List.set_comm _ _ a2.symm, List.set_comm _ _ a1.symm, List.set_comm _ _ h.st.bc.symm, List.set_set]
theorem SC.of {P : Program} {f : FuncId} {vs : List AV} {r : AV} {x0 : StV} {Vc0 V0 : Value} {ts0 : List Term} (hh : StT H t S x0 Vc0 V0 ts0)
    (h : ∀ H V Vc, StT H t S x Vc V ts → XCall P f vs H fun r' H' => r' = r ∧ ∃ V' Vc', H' = tbOf (stOf H t S x' Vc') t V' ts') : SC P f vs H t S x ts r x' ts' := fun V Vc L => by
  have h1 := hh.of x Vc V ts
  refine XCall.mono (h _ V Vc (h1.app L)) ?_
  rintro r' H' ⟨e, V', Vc', h2⟩
  exact ⟨e, V', Vc', by rw [h2, h1.of_app, hh.of_of]⟩
/-- A call of the kit beside it. -/
theorem KC.st {P : Program} {f : FuncId} {vs : List AV} {r : AV} {Vc0 V0 : Value} {x0 : StV} {ts0 : List Term} (hh : StT H t S x0 Vc0 V0 ts0) (x : StV) (Vc : Value)
    (h : ∀ H V, TbOk H t V ts → XCall P f vs H fun r' H' => r' = r ∧ ∃ V', H' = tbOf H t V' ts') : KC P f vs (stOf H t S x Vc) t ts r ts' :=
  KC.of (hh.st.tb hh.tb x Vc) h
end
theorem areg_kH {P : Program} {N : Nat} {tm : List AV} {L H : List (Option Blk)} {t : Tb} {V : Value} {ts ts' : List Term} {r : AV} {K : AS → Prop} {xs : List AOp} {d : Option Tmp} {g : XT} {ys : List Operand} {keep fresh : List Tmp} {fo : List Tmp} {ow : Option Tmp} {vs : List AV} {f : FuncId}
    (us : List AV) (hN : H.length = N) (ha : (ys.map fun x => AS.ev ⟨N, tm, tbOf H t V ts ++ L⟩ x) = us) (ht : ∀ L, tgtH P (tbOf H t V ts ++ L) g us = some (f, vs)) (hc : KC P f vs H t ts r ts') (hlt : ∀ t' ∈ fresh, t' < L.length)
    (hk : ∀ t' ∈ keep, ∀ b, (AS.ev ⟨N, tm, tbOf H t V ts ++ L⟩ (.tmp t')).place = some b → N ≤ b)
    (h : ∀ V', AReg P xs { AS.put ⟨N, tm, tbOf H t V ts ++ L⟩ d r with hp := tbOf H t V' ts' ++ L } K) : AReg P (⟨d, none, .xc g ys keep fresh, fo, ow⟩ :: xs) ⟨N, tm, tbOf H t V ts ++ L⟩ K := by
  subst hN
  refine areg_xfH (us := us) (K' := fun r' H' => r' = r ∧ ∃ V', H' = tbOf H t V' ts' ++ L) ha (fun E _ => by rw [setE_cat _ _ (tbOf_len _ _ _ _)]; exact ht _) (fun E _ => hc.xf V L E) ⟨_, _, rfl, .slice none 0 0, rfl⟩ (fun t' ht' => by simp [tbOf_len]; exact hlt t' ht') (fun r' hp' hK => ?_) ?_
  · obtain ⟨_, V', rfl⟩ := hK
    refine ⟨fun t' ht' b hb => ?_, by simp [tbOf_len]⟩
    have hge := hk t' ht' b hb
    simp only
    rw [List.getElem?_append_right (by rw [tbOf_len]; exact hge), List.getElem?_append_right (by rw [tbOf_len]; exact hge), tbOf_len, tbOf_len]
  · rintro r' hp' ⟨rfl, V', rfl⟩
    exact h V'
theorem areg_sc {P : Program} {N : Nat} {tm : List AV} {L H : List (Option Blk)} {t : Tb} {S : Sb} {x x' : StV} {V Vc : Value} {ts ts' : List Term} {r : AV} {K : AS → Prop} {xs : List AOp} {d : Option Tmp} {g : XT} {ys : List Operand} {keep fresh : List Tmp} {fo : List Tmp} {ow : Option Tmp} {vs : List AV} {f : FuncId}
    (us : List AV) (hN : H.length = N) (ha : (ys.map fun y => AS.ev ⟨N, tm, tbOf (stOf H t S x Vc) t V ts ++ L⟩ y) = us) (ht : tgtA P g us = some (f, vs)) (hc : SC P f vs H t S x ts r x' ts') (hlt : ∀ t' ∈ fresh, t' < L.length)
    (hk : ∀ t' ∈ keep, ∀ b, (AS.ev ⟨N, tm, tbOf (stOf H t S x Vc) t V ts ++ L⟩ (.tmp t')).place = some b → N ≤ b)
    (h : ∀ V' Vc', AReg P xs { AS.put ⟨N, tm, tbOf (stOf H t S x Vc) t V ts ++ L⟩ d r with hp := tbOf (stOf H t S x' Vc') t V' ts' ++ L } K) : AReg P (⟨d, none, .xc g ys keep fresh, fo, ow⟩ :: xs) ⟨N, tm, tbOf (stOf H t S x Vc) t V ts ++ L⟩ K := by
  subst hN
  have hl := fun x Vc V ts => StT.len H t S x Vc V ts
  refine areg_xf (us := us) (K' := fun r' H' => r' = r ∧ ∃ V' Vc', H' = tbOf (stOf H t S x' Vc') t V' ts' ++ L) ha ht (fun E _ => ?_) ⟨_, _, rfl, .slice none 0 0, .slice none 0 0, rfl⟩ (fun t' ht' => by simp [hl]; exact hlt t' ht') (fun r' hp' hK => ?_) ?_
  · refine XCall.mono (xf_of (hl x Vc V ts) (KG := fun r' G => r' = r ∧ ∃ V' Vc', G = tbOf (stOf H t S x' Vc') t V' ts') (fun L => XCall.mono (hc V Vc L) ?_) (fun r' G' hG => ?_) E) ?_
    · rintro r' H' ⟨h1, V', Vc', h2⟩
      exact ⟨_, ⟨h1, V', Vc', rfl⟩, h2⟩
    · obtain ⟨_, V', Vc', rfl⟩ := hG
      exact hl _ _ _ _
    · rintro r' H' ⟨hp', ⟨G', ⟨h1, V', Vc', rfl⟩, rfl⟩, h3⟩
      exact ⟨_, ⟨h1, V', Vc', rfl⟩, h3⟩
  · obtain ⟨_, V', Vc', rfl⟩ := hK
    refine ⟨fun t' ht' b hb => ?_, by simp [hl]⟩
    have hge := hk t' ht' b hb
    simp only
    rw [List.getElem?_append_right (by rw [hl]; exact hge), List.getElem?_append_right (by rw [hl]; exact hge), hl, hl]
  · rintro r' hp' ⟨rfl, V', Vc', rfl⟩
    exact h V' Vc'
end Go.Cab

/- Secrets: a step: the author's ratchet, two hashes by what somebody knows, a member's secret noted. -/
-- TEXTS
-- KIT
namespace Go.Cab
open Go.RowKit
open Classical
def fb620 : AC := (.seq (.reg [⟨(.some 2), .none, (.mov (.const (.pointer .none))), [], .none⟩]) (.seq (.reg [⟨(.some 3), .none, (.mov (.tmp 0)), [], .none⟩, ⟨(.some 4), .none, (.mov (.tmp 0)), [], .none⟩, ⟨(.some 5), .none, (.nilc (.tmp 4)), [], .none⟩, ⟨(.some 6), .none, (.faddr 563 4 (.tmp 5)), [], .none⟩, ⟨(.some 7), .none, (.faddr 0 0 (.tmp 6)), [], .none⟩, ⟨(.some 8), .none, (.load .false 1 (.tmp 7)), [], .none⟩, ⟨(.some 9), .none, (.nilc (.tmp 3)), [], .none⟩, ⟨(.some 10), .none, (.faddr 1 1 (.tmp 9)), [], .none⟩, ⟨(.some 11), .none, (.faddr 0 0 (.tmp 10)), [], .none⟩, ⟨(.some 12), .none, (.iaddrA 8 66 (.tmp 11) (.tmp 8)), [], .none⟩, ⟨(.some 2), .none, (.mov (.tmp 12)), [], .none⟩]) .ret))
def fc620 : FC := ⟨1, 13, [(.tmp 2)], fb620⟩
theorem fc620_eq : compF Go.Proofs.Tryd.prog 31 = some fc620 := by kernel_rfl
def fb621 : AC := (.seq (.reg [⟨(.some 3), .none, (.box 32 (.tmp 1)), [], .none⟩]) (.seq (.reg [⟨(.some 5), .none, (.mov (.tmp 0)), [], .none⟩, ⟨(.some 6), .none, (.xc (.dir 31) [(.tmp 5)] [] []), [], .none⟩, ⟨(.some 4), .none, (.mov (.tmp 6)), [], .none⟩]) (.reg [⟨(.some 8), .none, (.mov (.tmp 4)), [], .none⟩, ⟨(.some 9), .none, (.mov (.tmp 4)), [], .none⟩, ⟨(.some 10), .none, (.mov (.tmp 0)), [], .none⟩, ⟨(.some 11), .none, (.rdp (.mkifc 67) [(.tmp 10)]), [], .none⟩, ⟨(.some 12), .none, (.mov (.tmp 4)), [], .none⟩, ⟨(.some 13), .none, (.nilc (.tmp 12)), [], .none⟩, ⟨(.some 14), .none, (.faddr 2 2 (.tmp 13)), [], .none⟩, ⟨(.some 15), .none, (.load .true 32 (.tmp 14)), [], (.some 4)⟩, ⟨(.some 16), .none, (.load .true 32 (.tmp 3)), [], (.some 3)⟩, ⟨(.some 17), .none, (.bslice 32 (.arr 1 (List.replicate 32 (.lit (bn 0)))) 2 [(0, (.tmp 15)), (1, (.tmp 16))]), [], .none⟩, ⟨(.some 18), .none, (.xc (.dir 78) [(.tmp 11), (.const (tx [114, 97, 116, 99, 104, 101, 116])), (.tmp 17)] [] []), [], .none⟩, ⟨(.some 7), .none, (.mov (.tmp 18)), [], .none⟩, ⟨(.some 19), .none, (.ext (.tmp 7) 0), [], .none⟩, ⟨(.some 20), .none, (.ext (.tmp 7) 1), [], .none⟩, ⟨(.some 21), .none, (.nilc (.tmp 8)), [], .none⟩, ⟨(.some 22), .none, (.faddr 34 3 (.tmp 21)), [], .none⟩, ⟨.none, .none, (.store 32 (.tmp 22) (.tmp 19)), [], .none⟩, ⟨(.some 23), .none, (.nilc (.tmp 9)), [], .none⟩, ⟨(.some 24), .none, (.faddr 2 2 (.tmp 23)), [], .none⟩, ⟨.none, .none, (.store 32 (.tmp 24) (.tmp 20)), [], .none⟩])))
def fc621 : FC := ⟨2, 25, [], fb621⟩
theorem fc621_eq : compF Go.Proofs.Tryd.prog 70 = some fc621 := by kernel_rfl
def fb622 : AC := (.seq (.reg [⟨(.some 5), .none, (.box 32 (.tmp 2)), [], .none⟩]) (.reg [⟨(.some 6), .none, (.mov (.tmp 0)), [], .none⟩, ⟨(.some 7), .none, (.mov (.tmp 0)), [], .none⟩, ⟨(.some 8), .none, (.nilc (.tmp 7)), [], .none⟩, ⟨(.some 9), .none, (.faddr 1 1 (.tmp 8)), [], .none⟩, ⟨(.some 10), .none, (.faddr 528 1 (.tmp 9)), [], .none⟩, ⟨(.some 11), .none, (.load .false 1 (.tmp 10)), [], .none⟩, ⟨(.some 12), .none, (.mov (.tmp 0)), [], .none⟩, ⟨(.some 13), .none, (.nilc (.tmp 12)), [], .none⟩, ⟨(.some 14), .none, (.faddr 531 3 (.tmp 13)), [], .none⟩, ⟨(.some 15), .none, (.load .true 32 (.tmp 14)), [], (.some 0)⟩, ⟨(.some 16), .none, (.mov (.tmp 1)), [], .none⟩, ⟨(.some 17), .none, (.load .true 32 (.tmp 5)), [], (.some 5)⟩, ⟨(.some 18), .none, (.build (.st [32, 1, 32] [(.arr 1 (List.replicate 32 (.lit (bn 0)))), (.lit (jn 0)), (.arr 1 (List.replicate 32 (.lit (bn 0))))]) [(0, (.tmp 15)), (1, (.tmp 16)), (2, (.tmp 17))]), [], .none⟩, ⟨(.some 19), .none, (.bslice 65 (.st [32, 1, 32] [(.arr 1 (List.replicate 32 (.lit (bn 0)))), (.lit (jn 0)), (.arr 1 (List.replicate 32 (.lit (bn 0))))]) 1 [(0, (.tmp 18))]), [], .none⟩, ⟨(.some 20), .none, (.append 83 65 72 (.tmp 11) (.tmp 19)), [], .none⟩, ⟨(.some 21), .none, (.nilc (.tmp 6)), [], .none⟩, ⟨(.some 22), .none, (.faddr 1 1 (.tmp 21)), [], .none⟩, ⟨(.some 23), .none, (.faddr 528 1 (.tmp 22)), [], .none⟩, ⟨.none, .none, (.store 1 (.tmp 23) (.tmp 20)), [], .none⟩]))
def fc622 : FC := ⟨3, 24, [], fb622⟩
theorem fc622_eq : compF Go.Proofs.Tryd.prog 71 = some fc622 := by kernel_rfl
def fb623 : AC := (.seq (.reg [⟨(.some 2), .none, (.mov (.const (.bool .false))), [], .none⟩]) (.seq (.reg [⟨(.some 3), .none, (.mov (.tmp 0)), [], .none⟩, ⟨(.some 4), .none, (.xc (.dir 31) [(.tmp 3)] [] []), [], .none⟩, ⟨(.some 5), .none, (.nilc (.tmp 4)), [], .none⟩, ⟨(.some 6), .none, (.faddr 0 0 (.tmp 5)), [], .none⟩, ⟨(.some 7), .none, (.load .false 1 (.tmp 6)), [], .none⟩, ⟨(.some 2), .none, (.mov (.tmp 7)), [], .none⟩]) .ret))
def fc623 : FC := ⟨1, 8, [(.tmp 2)], fb623⟩
theorem fc623_eq : compF Go.Proofs.Tryd.prog 69 = some fc623 := by kernel_rfl

def stI (S : Sb) : AV := .ifc 67 (.ptr S.b S.l 0 [])
theorem mkifc_st (b : Nat) (l : Nat × Nat) : rdA Go.Proofs.Tryd.prog (fun _ => none) (.mkifc 67) [.ptr b l 0 []] = some (.ifc 67 (.ptr b l 0 [])) := by kernel_rfl
theorem via_hash : viaB Go.Proofs.Tryd.prog 67 "Hash" = true := by kernel_rfl
theorem meth_hash (b : Nat) (l : Nat × Nat) : methA Go.Proofs.Tryd.prog (Go.Proofs.Tryd.prog.types.size + Made.depth - 1) 40 (freeS b l) "Hash" = some (108, .ptr b l 0 []) := by kernel_rfl
theorem call_hash : callable Go.Proofs.Tryd.prog 108 = true := by kernel_rfl
theorem tgtA_st (b : Nat) (l : Nat × Nat) (x y : AV) : tgtA Go.Proofs.Tryd.prog (.inv "Hash") [.ifc 67 (.ptr b l 0 []), x, y] = none := by kernel_rfl
theorem tgt_stHash {hp : List (Option Blk)} {t : Tb} {S : Sb} {x : StV} {Vc : Value} (hb : hp[S.b]? = some (some (sbk t S x Vc))) (a b : AV) : tgtH Go.Proofs.Tryd.prog hp (.inv "Hash") [stI S, a, b] = some (108, [.ptr t.b t.l 0 [], a, b]) := by
  unfold tgtH stI
  rw [tgtA_st]
  simp only
  have hpk : AS.peek ⟨0, [], hp⟩ (fun _ => true) (.ptr S.b S.l 0 ([] ++ [0])) = some (1, .ifc 40 (freeS t.b t.l)) := by
    simp [AS.peek, AS.blk, hb, sbk, Blk.loc, Blk.cont, Blk.n, stA, AV.nav, freeI]
  unfold tgtP
  simp only [via_hash, if_true, hpk, meth_hash, Option.bind_some, call_hash]

set_option maxHeartbeats 8000000 in
theorem two_gen {H : List (Option Blk)} {t : Tb} {V : Value} {ts : List Term} (hh : TbOk H t V ts) (hn : ts.length + 1 < 100000) {s : List UInt8} (hs : s.length < 90000) {ks : List (List UInt8)} (hk : ks.length < 100000) (h32 : ∀ k ∈ ks, k.length = 32) {I : AV} (hI : ∀ V ts L x y, tgtH Go.Proofs.Tryd.prog (tbOf H t V ts ++ L) (.inv "Hash") [I, x, y] = some (108, [.ptr t.b t.l 0 [], x, y])) :
    XCall Go.Proofs.Tryd.prog 78 [I, .lit (tx s), .sl 32 (klA ks)] H fun r H' => r = .tup [keyA (twoV ts s ks).1.1, keyA (twoV ts s ks).1.2] ∧ ∃ V', H' = tbOf H t V' (twoV ts s ks).2 := by
  have h515 := fc515_eq
  refine XCall.le ?_
  have hself := hh.self
  have G1 : ∀ V' ts', (tbOf H t V' ts').length = H.length := fun V' ts' => tbOf_len _ _ _ _
  have g1 : ∀ V' ts' L k, (tbOf H t V' ts' ++ L)[H.length + k]? = L[k]? := fun V' ts' L k => cat1 _ _ _ _ (G1 _ _)
  have g2 : ∀ V' ts' L k x, (tbOf H t V' ts' ++ L).set (H.length + k) x = tbOf H t V' ts' ++ L.set k x := fun V' ts' L k x => cat2 _ _ _ _ _ (G1 _ _)
  have hb1 : binVal .add (tx s) (tx [47, 49]) = some (tx (s ++ [47, 49])) := bin_adds _ _ (by simp only [List.length_cons, List.length_nil]; omega)
  have hb2 : binVal .add (tx s) (tx [47, 50]) = some (tx (s ++ [47, 50])) := bin_adds _ _ (by simp only [List.length_cons, List.length_nil]; omega)
  have l1 : (s ++ [47, 49]).length < 100000 := by simp; omega
  have l2 : (s ++ [47, 50]).length < 100000 := by simp; omega
  have hln := putT_len ts ⟨2, s ++ [47, 49], ks⟩
  have hk1 := hash_k hh (ts := ts) (by omega) l1 hk h32
  have hk2 := hash_k hh (ts := putT ts ⟨2, s ++ [47, 49], ks⟩) (by omega) l2 hk h32
  have n1 := nameK_len (putN ts ⟨2, s ++ [47, 49], ks⟩)
  have n2 := nameK_len (putN (putT ts ⟨2, s ++ [47, 49], ks⟩) ⟨2, s ++ [47, 50], ks⟩)
  unfold twoV
  simp only
  generalize nameK (putN ts ⟨2, s ++ [47, 49], ks⟩) = k1 at *
  generalize nameK (putN (putT ts ⟨2, s ++ [47, 49], ks⟩) ⟨2, s ++ [47, 50], ks⟩) = k2 at *
  generalize putT (putT ts ⟨2, s ++ [47, 49], ks⟩) ⟨2, s ++ [47, 50], ks⟩ = ts3 at *
  generalize putT ts ⟨2, s ++ [47, 49], ks⟩ = ts2 at *
  generalize s ++ [47, 49] = sa at *
  generalize s ++ [47, 50] = sb at *
  refine XCall.of h515 rfl ?_; show AC.wp _ fb515 ⟨H.length, [I, .lit (tx s), .sl 32 (klA ks)] ++ List.replicate (18 - 3) .any, H ++ List.replicate 18 none⟩ (fun x s => match x with | .exit _ => False | _ => ∃ s1, Le s s1 ∧ FinX [(.cell 6 .true 32), (.cell 7 .true 32)] s1 _); unfold fb515
  rw [← hself]
  rw [tbOf_len]
  generalize hN : H.length = N at *
  refine wp_sg (areg_al' zk_eq.symm fun l6 => areg_al' zk_eq.symm fun l7 => areg_end (by simp [push_cast, g2]; exact rfl) ?_)
  refine wp_sg ?_
  refine areg_run 4 (by simp [push_cast, hb1]; exact rfl) ?_
  refine areg_kH [I, .lit (tx sa), .sl 32 (klA ks)] hN rfl (fun L => hI _ _ L _ _) hk1 (by simp) (by simp) fun V2 => ?_
  refine areg_run 4 (by simp [push_cast, hb2]; exact rfl) ?_
  refine areg_kH [I, .lit (tx sb), .sl 32 (klA ks)] hN rfl (fun L => hI _ _ L _ _) hk2 (by simp) (by simp) fun V3 => ?_
  refine areg_end (by simp [push_cast, g1, g2, n1, n2]; exact rfl) (wp_ret' ?_)
  exact ⟨_, Le.refl _, [], _, ⟨_, rfl, by simp [AS.seals, RVals, RVal, AS.ev, AS.peek, AS.blk, g1, Blk.loc, Blk.cont, Blk.n, AV.nav, AV.isAgg, AV.isTup, AS.coe]; rfl, by simp [keyA]⟩, .tup [keyA k1, keyA k2], _, RelLe.refl _, by simp, HpLe.trim _ _, rfl, V3, (hh.of_of _ _ _ _).symm⟩
theorem twoS_sc {H : List (Option Blk)} {t : Tb} {S : Sb} {x0 x : StV} {Vc0 V0 : Value} {ts0 ts : List Term} (hh : StT H t S x0 Vc0 V0 ts0) (hn : ts.length + 1 < 100000) {s : List UInt8} (hs : s.length < 90000) {ks : List (List UInt8)} (hk : ks.length < 100000) (h32 : ∀ k ∈ ks, k.length = 32) :
    SC Go.Proofs.Tryd.prog 78 [stI S, .lit (tx s), .sl 32 (klA ks)] H t S x ts (.tup [keyA (twoV ts s ks).1.1, keyA (twoV ts s ks).1.2]) x (twoV ts s ks).2 :=
  SC.of hh fun H V Vc h => XCall.mono (two_gen h.tb hn hs hk h32 (I := stI S) fun V' ts' L a b => tgt_stHash (((h.st.tbOf V' ts').app L).hb) a b) fun r H' ⟨h1, V', h2⟩ => ⟨h1, V', Vc, by rw [h2, h.st.self]⟩

/-! ### The author's ratchet -/
def autV (x : StV) : Nat := x.o.author.toNat
/-- The author is a member; there are eight ratchets. -/
structure AuOk (x : StV) (a : Nat) : Prop where
  au : x.o.author = (a : Int)
  lt : a < 8
  len : x.rats.length = 8
def autP (S : Sb) (a : Nat) : AV := .ptr S.b S.l (1 + a * 66) [1, 0, a]
set_option maxHeartbeats 8000000 in
theorem author_call {G : List (Option Blk)} {t : Tb} {S : Sb} {x : StV} {Vc : Value} (hb : G[S.b]? = some (some (sbk t S x Vc))) {a : Nat} (ha : AuOk x a) : XCall Go.Proofs.Tryd.prog 31 [.ptr S.b S.l 0 []] G fun r H' => r = autP S a ∧ H' = G := by
  have h620 := fc620_eq
  refine XCall.le ?_
  obtain ⟨h1, h2, h3⟩ := ha
  have lb := (List.getElem?_eq_some_iff.1 hb).1
  unfold sbk stA opA at hb
  obtain ⟨rats, waits, me, id, o, of_, got⟩ := x
  simp only at h1 h3 hb
  rw [h1, show ji (a : Int) = jn a from rfl] at hb
  have hA : (rats.map ratA).length = 8 := by rw [List.length_map]; exact h3
  generalize rats.map ratA = A at *
  refine XCall.of h620 rfl ?_; show AC.wp _ fb620 ⟨G.length, [.ptr S.b S.l 0 []] ++ List.replicate (13 - 1) .any, G ++ List.replicate 13 none⟩ (fun x s => match x with | .exit _ => False | _ => ∃ s1, Le s s1 ∧ FinX [(.tmp 2)] s1 _); unfold fb620
  generalize hN : G.length = N at *
  have p1 : ∀ L k, (G ++ L)[N + k]? = L[k]? := fun L k => cat1 N G L k hN
  have pb : ∀ L, (G ++ L)[S.b]? = G[S.b]? := fun L => cat4 N G L _ hN lb
  rw [hb] at pb
  refine wp_sr (by simp [push_cast]; exact rfl) ?_
  refine wp_sr (by simp [push_cast, pb, h2, hA]; exact rfl) (wp_ret' ?_)
  exact ⟨_, Le.refl _, [], _, ⟨by simp [AS.seals, RVals, RVal, AS.ev, AS.coe]; rfl, by simp [autP]⟩, autP S a, G, RelLe.refl _, by simp [autP], HpLe.trim _ _, rfl, rfl⟩

theorem tgt_author (x : AV) : tgtA Go.Proofs.Tryd.prog (.dir 31) [x] = some (31, [x]) := by kernel_rfl
/-- Behind a step. -/
def stepX (x : StV) (a : Nat) (r : Rat) (n : List UInt8 × List UInt8) : StV := { x with rats := x.rats.set a ⟨r.known, r.open_, n.2, n.1⟩ }
set_option maxHeartbeats 16000000 in
theorem step_call {G : List (Option Blk)} {t : Tb} {S : Sb} {x : StV} {Vc V : Value} {ts : List Term} (hh : StT G t S x Vc V ts) (hn : ts.length + 1 < 100000) {a : Nat} (ha : AuOk x a) {r : Rat} (hr : x.rats[a]? = some r) (hk : r.key.length = 32) (hc : r.chain.length = 32) {s : List UInt8} (hs : s.length = 32) :
    XCall Go.Proofs.Tryd.prog 70 [.ptr S.b S.l 0 [], keyA s] G fun r' H' => r' = .tup [] ∧ ∃ V' Vc', H' = tbOf (stOf G t S (stepX x a r (twoV ts txRatchet [r.key, s]).1) Vc') t V' (twoV ts txRatchet [r.key, s]).2 := by
  have h621 := fc621_eq
  refine XCall.le ?_
  have c2 := twoS_sc hh (x := x) hn (s := txRatchet) (by simp [txRatchet]) (ks := [r.key, s]) (by simp) (by simp [hk, hs])
  have n1 : (twoV ts txRatchet [r.key, s]).1.1.length = 32 := nameK_len _
  have n2 : (twoV ts txRatchet [r.key, s]).1.2.length = 32 := nameK_len _
  generalize twoV ts txRatchet [r.key, s] = tv at *
  obtain ⟨⟨k1, k2⟩, ts2⟩ := tv
  simp only at c2 n1 n2 ⊢
  have hself := hh.self
  have G1 : ∀ Y Z V' ts', (tbOf (stB G S Y Z) t V' ts').length = G.length := fun Y Z V' ts' => stB_len _ _ _ _ _ _ _
  have g1 : ∀ Y Z V' ts' L k, (tbOf (stB G S Y Z) t V' ts' ++ L)[G.length + k]? = L[k]? := fun Y Z V' ts' L k => cat1 _ _ _ _ (G1 _ _ _ _)
  have g2 : ∀ Y Z V' ts' L k x, (tbOf (stB G S Y Z) t V' ts' ++ L).set (G.length + k) x = tbOf (stB G S Y Z) t V' ts' ++ L.set k x := fun Y Z V' ts' L k x => cat2 _ _ _ _ _ (G1 _ _ _ _)
  have gb := hh.gb
  have gbs := hh.gbs
  have ac := fun Vc V ts L => author_call (G := tbOf (stB G S (sbk t S x Vc) (swk x Vc)) t V ts ++ L) (gb _ _ _ _ _) ha
  obtain ⟨h1, h2, h3⟩ := ha
  have e1 : ∀ n, 1 + (a * 66 + n) = 1 + a * 66 + n := fun n => by omega
  refine XCall.of h621 rfl ?_; show AC.wp _ fb621 ⟨G.length, [.ptr S.b S.l 0 [], keyA s] ++ List.replicate (25 - 2) .any, G ++ List.replicate 25 none⟩ (fun x s => match x with | .exit _ => False | _ => ∃ s1, Le s s1 ∧ FinX [] s1 _); unfold fb621
  rw [← hself]
  unfold stOf
  rw [stB_len]
  generalize hN : G.length = N at *
  refine wp_sg (areg_bx rfl (by simp [AS.ev, AS.put, keyA, AV.sz, bl, hs]) fun l3 => areg_end (by simp [push_cast, g1, g2]; exact rfl) ?_)
  refine wp_sg ?_
  refine areg_run 1 (by simp [push_cast]; exact rfl) ?_
  refine areg_xq (us := [.ptr S.b S.l 0 []]) rfl (tgt_author _) (ac _ _ _ _) ⟨_, _, rfl, rfl⟩ (fun r hp' hK t' ht' => by cases ht') ?_
  rintro r' H' ⟨rfl, rfl⟩
  refine areg_end (by simp [push_cast]; exact rfl) ?_
  refine wp_rg ?_
  refine areg_run 3 (by simp [push_cast]; exact rfl) ?_
  refine areg_rdp (us := [.ptr S.b S.l 0 []]) rfl (mkifc_st _ _) ?_
  have hA : (x.rats.map ratA).length = 8 := by rw [List.length_map]; exact h3
  have hwA : a < (x.rats.map ratA).length := by omega
  have hg : (x.rats.map ratA)[a]? = some (.st [1, 1, 32, 32] [.lit (.bool r.known), .lit (.bool r.open_), keyA r.key, keyA r.chain]) := by rw [List.getElem?_map, hr]; rfl
  have hg4 : ∀ h, (x.rats.map ratA)[a]'h = .st [1, 1, 32, 32] [.lit (.bool r.known), .lit (.bool r.open_), keyA r.key, keyA r.chain] := fun h => by rw [List.getElem?_eq_getElem h] at hg; exact Option.some.inj hg
  refine areg_run 5 (by simp [push_cast, autP, gb, g1, hs, sbk, stA, hA, hwA, hg, hg4, h2, e1, hk]; exact rfl) ?_
  refine areg_bsl (k := 32) (els := klA [r.key, s]) (fill_ar rfl rfl rfl (by simp [AV.sz, AS.ev, AS.put, hk, bl_len]) (fill_ar rfl rfl rfl (by simp [AV.sz, AS.ev, AS.put, hs, bl_len]) rfl)) ?_
  refine areg_sc (x := x) (Vc := Vc) (x' := x) [stI S, .lit (tx txRatchet), .sl 32 (klA [r.key, s])] hN rfl (tgt_two _ _ _) c2 (by simp) (by simp) fun V2 Vc2 => ?_
  unfold stOf
  have hset : ∀ v : AV, ((x.rats.map ratA).set a v).length = 8 := fun v => by rw [List.length_set]; exact hA
  have hsg : ∀ v : AV, ((x.rats.map ratA).set a v)[a]? = some v := fun v => List.getElem?_set_self hwA
  have hsg4 : ∀ v h, ((x.rats.map ratA).set a v)[a]'h = v := fun v h => List.getElem_set_self h
  have hfin : (x.rats.map ratA).set a (.st [1, 1, 32, 32] [.lit (.bool r.known), .lit (.bool r.open_), keyA k2, keyA k1]) = (stepX x a r (k1, k2)).rats.map ratA := by simp [stepX, List.map_set, ratA]
  refine areg_end (by simp [push_cast, autP, gb, gbs, g1, sbk, stA, hA, hwA, hg, hg4, h2, e1, n1, n2, hk, hc, hset, hsg, hsg4, List.set_set]; exact rfl) ?_
  refine ⟨_, Le.refl _, [], .tup [], ⟨[], rfl, rfl, by simp⟩, .tup [], _, RelLe.refl _, by simp, HpLe.trim _ _, rfl, V2, Vc2, ?_⟩
  refine Eq.trans ?_ (hh.of_of x (stepX x a r (k1, k2)) Vc Vc2 V V2 ts ts2).symm
  unfold stOf sbk stA
  rw [← hfin]
  rfl

set_option maxHeartbeats 16000000 in
theorem knownS_call {G : List (Option Blk)} {t : Tb} {S : Sb} {x : StV} {Vc : Value} (hb : G[S.b]? = some (some (sbk t S x Vc))) {a : Nat} (ha : AuOk x a) {r : Rat} (hr : x.rats[a]? = some r) : XCall Go.Proofs.Tryd.prog 69 [.ptr S.b S.l 0 []] G fun r' H' => r' = .lit (.bool r.known) ∧ H' = G := by
  have h623 := fc623_eq
  refine XCall.le ?_
  have ac := fun L => author_call (G := G ++ L) (t := t) (S := S) (x := x) (Vc := Vc) (by rw [List.getElem?_append_left (List.getElem?_eq_some_iff.1 hb).1]; exact hb) ha
  obtain ⟨h1, h2, h3⟩ := ha
  have lb := (List.getElem?_eq_some_iff.1 hb).1
  have hA : (x.rats.map ratA).length = 8 := by rw [List.length_map]; exact h3
  have hwA : a < (x.rats.map ratA).length := by omega
  have hg : (x.rats.map ratA)[a]? = some (.st [1, 1, 32, 32] [.lit (.bool r.known), .lit (.bool r.open_), keyA r.key, keyA r.chain]) := by rw [List.getElem?_map, hr]; rfl
  have hg4 : ∀ h, (x.rats.map ratA)[a]'h = .st [1, 1, 32, 32] [.lit (.bool r.known), .lit (.bool r.open_), keyA r.key, keyA r.chain] := fun h => by rw [List.getElem?_eq_getElem h] at hg; exact Option.some.inj hg
  have e1 : ∀ n, 1 + (a * 66 + n) = 1 + a * 66 + n := fun n => by omega
  refine XCall.of h623 rfl ?_; show AC.wp _ fb623 ⟨G.length, [.ptr S.b S.l 0 []] ++ List.replicate (8 - 1) .any, G ++ List.replicate 8 none⟩ (fun x s => match x with | .exit _ => False | _ => ∃ s1, Le s s1 ∧ FinX [(.tmp 2)] s1 _); unfold fb623
  generalize hN : G.length = N at *
  have pb : ∀ L, (G ++ L)[S.b]? = G[S.b]? := fun L => cat4 N G L _ hN lb
  rw [hb] at pb
  refine wp_sr (by simp [push_cast]; exact rfl) (wp_sg ?_)
  refine areg_run 1 (by simp [push_cast]; exact rfl) ?_
  refine areg_xq (us := [.ptr S.b S.l 0 []]) rfl (tgt_author _) (ac _) ⟨_, _, rfl, rfl⟩ (fun r hp' hK t' ht' => by cases ht') ?_
  rintro r' H' ⟨rfl, rfl⟩
  refine areg_end (by simp [push_cast, autP, pb, sbk, stA, hA, hwA, hg, hg4, h2, e1]; exact rfl) (wp_ret' ?_)
  exact ⟨_, Le.refl _, finX1 (v := .lit (.bool r.known)) (by simp [AS.seals, RVals, RVal, AS.ev, AS.coe]) (by simp) ⟨.lit (.bool r.known), G, RelLe.refl _, by simp, HpLe.trim _ _, rfl, rfl⟩⟩
end Go.Cab

/- Secrets: a member's secret noted. -/
-- TEXTS
-- KIT
namespace Go.Cab
open Go.RowKit
open Classical

def awaitX (x : StV) (who : Int) (k : List UInt8) : StV := { x with waits := x.waits ++ [⟨x.id, who, k⟩] }
set_option maxHeartbeats 16000000 in
theorem await_call {G : List (Option Blk)} {t : Tb} {S : Sb} {x : StV} {Vc V : Value} {ts : List Term} (hh : StT G t S x Vc V ts) (who : Int) {k : List UInt8} (hk : k.length = 32) (hid : x.id.length = 32) (hwl : x.waits.length < 10000) :
    XCall Go.Proofs.Tryd.prog 71 [.ptr S.b S.l 0 [], .lit (ji who), keyA k] G fun r' H' => r' = .tup [] ∧ ∃ V' Vc', H' = tbOf (stOf G t S (awaitX x who k) Vc') t V' ts := by
  have h622 := fc622_eq
  refine XCall.le ?_
  have lb := hh.st.lb; have lc := hh.st.lc
  have gb := hh.st.hb; have gc := hh.st.hc
  have hbc := hh.st.bc
  unfold sbk stA at gb
  unfold swk at gc
  have bd1 : (x.waits.map waitA).length + 1 ≤ maxLen := by rw [List.length_map]; simp [maxLen]; omega
  have bd2 : ((x.waits.map waitA).length + 1) * 72 ≤ 140737488355328 := by rw [List.length_map]; omega
  refine XCall.of h622 rfl ?_; show AC.wp _ fb622 ⟨G.length, [.ptr S.b S.l 0 [], .lit (ji who), keyA k] ++ List.replicate (24 - 3) .any, G ++ List.replicate 24 none⟩ (fun x s => match x with | .exit _ => False | _ => ∃ s1, Le s s1 ∧ FinX [] s1 _); unfold fb622
  generalize hN : G.length = N at *
  have p1 : ∀ L k, (G ++ L)[N + k]? = L[k]? := fun L k => cat1 N G L k hN
  have p2 : ∀ L k x, (G ++ L).set (N + k) x = G ++ L.set k x := fun L k x => cat2 N G L k x hN
  have pb : ∀ L, (G ++ L)[S.b]? = G[S.b]? := fun L => cat4 N G L _ hN lb
  have pc : ∀ L, (G ++ L)[S.c]? = G[S.c]? := fun L => cat4 N G L _ hN lc
  rw [gb] at pb
  rw [gc] at pc
  have psc : ∀ L x, (G ++ L).set S.c x = G.set S.c x ++ L := fun L x => cat3 N G L _ x hN lc
  have hG1 : (G.set S.c none).length = N := by rw [List.length_set]; exact hN
  have q2 : ∀ L k x, (G.set S.c none ++ L).set (N + k) x = G.set S.c none ++ L.set k x := fun L k x => cat2 N _ L k x hG1
  have qb : ∀ L, (G.set S.c none ++ L)[S.b]? = G[S.b]? := fun L => by rw [cat4 N _ L _ hG1 lb, List.getElem?_set_ne hbc.symm]
  rw [gb] at qb
  have qsb : ∀ L B, (G.set S.c none ++ L).set S.b B = (G.set S.c none).set S.b B ++ L := fun L B => cat3 N _ L _ _ hG1 lb
  refine wp_sg (areg_bx rfl (by simp [AS.ev, AS.put, keyA, AV.sz, bl, hk]) fun l5 => areg_end (by simp [push_cast, p1, p2]; exact rfl) ?_)
  refine wp_rg ?_
  refine areg_run 12 (by simp [push_cast, p1, pb, hk, hid]; exact rfl) ?_
  refine areg_bd (z' := waitA ⟨x.id, who, k⟩) (fill_st rfl rfl rfl rfl (by simp [AV.sz, AS.ev, AS.put, keyA, hid, bl_len]) (fill_st rfl rfl rfl rfl rfl (fill_st rfl rfl rfl rfl (by simp [AV.sz, AS.ev, AS.put, keyA, hk, bl_len]) rfl))) ?_
  refine areg_bsl (k := 65) (els := [waitA ⟨x.id, who, k⟩]) (fill_ar rfl rfl rfl (by simp [AV.sz, AS.ev, AS.put, waitA, keyA]) rfl) ?_
  refine areg_ap (b := S.c) (V := Vc) (ys := [waitA ⟨x.id, who, k⟩]) rfl (by simp only [AS.blk, AS.put, pc]; rfl) (by simp [AS.ev, AS.put, AS.coe]) bd1 bd2 (fun V' => ?_)
  refine areg_end (by simp [push_cast, psc, q2, qb, qsb]; exact rfl) ?_
  refine ⟨_, Le.refl _, [], .tup [], ⟨[], rfl, rfl, by simp⟩, .tup [], _, RelLe.refl _, by simp, ?_, rfl, V, V', (hh.st.tb hh.tb (awaitX x who k) V').self.symm⟩
  unfold stOf stB
  rw [show ∀ s : AS, (s.seals []).hp = s.hp from fun _ => rfl]
  dsimp only
  refine HpLe.swap (H := G) (b := S.b) (j := S.c) (d := N + 20) (X := .box S.l 706 (.st [1, 529, 1, 32, 71, 71, 1] [freeI t.b t.l, .st [528, 1] [.arr 66 (x.rats.map ratA), .own (N + 20) V'], .lit (ji x.me), keyA x.id, opA x.o, opA x.of_, .sl 32 (klA x.got)])) (by omega) hbc (by omega) ?_ ?_ ?_ ?_
  · rw [cat4 N _ _ _ (by rw [List.length_set]; exact hG1) lb, List.getElem?_set_self (by omega)]
    rfl
  · rw [cat1 N _ _ _ (by rw [List.length_set]; exact hG1)]
    simp [swk, awaitX]
  · intro k k1 k2 k3
    rw [cat4 N _ _ _ (by rw [List.length_set]; exact hG1) (by omega), List.getElem?_set_ne (Ne.symm k1), List.getElem?_set_ne (Ne.symm k2)]
  · exact BlkLe.box (AVle.st1 (AVle.refl _) (AVle.st1 (AVle.st1 (AVle.refl _) (AVle.st1 (AVle.own _ _ _) AVle.st0)) (AVle.refl _)))
end Go.Cab
