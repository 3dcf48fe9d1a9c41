/- Part 10 of what the proof stands on: G25, G26, G27, G19, G20. -/
import Derived.Test.YtjdoefdcdogeiaaCab09
import Derived.Test.YtjdoefdcdogeiaaCab08
set_option linter.unusedSimpArgs false
set_option linter.unnecessarySimpa false
set_option linter.unusedVariables false
set_option linter.unusedSectionVars false
/- What follows: Follow. -/
-- TEXTS
-- KIT
namespace Go.Cab
open Classical
def fb418 : AC := (.seq (.reg [⟨(.some 4), .none, (.mov (.const .nilFunc)), [], .none⟩]) (.seq (.reg [⟨(.some 9), .none, (.mov (.tmp 0)), [], .none⟩, ⟨(.some 10), .none, (.mov (.tmp 0)), [], .none⟩, ⟨(.some 11), .none, (.nilc (.tmp 10)), [], .none⟩, ⟨(.some 12), .none, (.faddr 0 0 (.tmp 11)), [], .none⟩, ⟨(.some 13), .none, (.load .false 1 (.tmp 12)), [], .none⟩, ⟨(.some 14), .none, (.len .false (.tmp 13)), [], .none⟩, ⟨(.some 15), .none, (.mkslice 4 1 1 (.lit (.bool .false)) (.tmp 14) (.tmp 14)), [], .none⟩, ⟨(.some 16), .none, (.build (.st [1, 1] [(.lit (.pointer .none)), (.lit (.slice .none 0 0))]) [(0, (.tmp 9)), (1, (.tmp 15))]), [], .none⟩, ⟨(.some 17), .none, (.box 2 (.tmp 16)), [], .none⟩, ⟨(.some 5), .none, (.mov (.tmp 17)), [], .none⟩]) (.seq (.seq (.reg [⟨(.some 18), .none, (.mov (.tmp 1)), [], .none⟩, ⟨(.some 19), .none, (.len .false (.tmp 18)), [], .none⟩, ⟨(.some 20), .none, (.mov (.const (jn 0))), [], .none⟩]) (.block 0 (.loop (.seq (.reg [⟨(.some 21), .none, (.bin .lss (.tmp 20) (.tmp 19)), [], .none⟩]) (.seq (.cond (.tmp 21) .skip (.exit 0)) (.seq (.block 1 (.seq (.reg [⟨(.some 22), .none, (.iaddrS 32 (.tmp 18) (.tmp 20)), [], .none⟩, ⟨(.some 23), .none, (.load .true 32 (.tmp 22)), [], .none⟩, ⟨(.some 7), .none, (.alloc 32 (.arr 1 (List.replicate 32 (.lit (bn 0))))), [], .none⟩, ⟨.none, .none, (.store 32 (.tmp 7) (.tmp 23)), [], .none⟩]) (.reg [⟨(.some 24), .none, (.mov (.tmp 5)), [], .none⟩, ⟨(.some 25), .none, (.load .true 32 (.tmp 7)), [], .none⟩, ⟨(.some 26), .none, (.icall 21 (.tmp 24) [(.tmp 25)]), [], .none⟩]))) (.reg [⟨(.some 27), .none, (.bin .add (.tmp 20) (.const (jn 1))), [], .none⟩, ⟨(.some 20), .none, (.mov (.tmp 27)), [], .none⟩]))))))) (.seq (.block 2 (.loop (.seq (.seq (.reg [⟨(.some 28), .none, (.mov (.tmp 5)), [], .none⟩, ⟨(.some 29), .none, (.icall 22 (.tmp 28) []), [], .none⟩]) (.cond (.tmp 29) .skip (.exit 2))) (.block 3 .skip)))) (.seq (.reg [⟨(.some 30), .none, (.mov (.tmp 0)), [], .none⟩, ⟨(.some 31), .none, (.nilc (.tmp 30)), [], .none⟩, ⟨(.some 32), .none, (.faddr 0 0 (.tmp 31)), [], .none⟩, ⟨(.some 33), .none, (.load .false 1 (.tmp 32)), [50], .none⟩, ⟨(.some 34), .none, (.mov (.tmp 0)), [], .none⟩, ⟨(.some 35), .none, (.nilc (.tmp 34)), [], .none⟩, ⟨(.some 36), .none, (.faddr 0 0 (.tmp 35)), [], .none⟩, ⟨(.some 37), .none, (.load .false 1 (.tmp 36)), [50], .none⟩, ⟨(.some 38), .none, (.len .false (.tmp 37)), [50], .none⟩, ⟨(.some 39), .none, (.mov (.tmp 0)), [], .none⟩, ⟨(.some 40), .none, (.nilc (.tmp 39)), [], .none⟩, ⟨(.some 41), .none, (.faddr 0 0 (.tmp 40)), [], .none⟩, ⟨(.some 42), .none, (.load .false 1 (.tmp 41)), [50], .none⟩, ⟨(.some 43), .none, (.len .false (.tmp 42)), [50], .none⟩, ⟨(.some 44), .none, (.rdp (.cap3 3) [(.tmp 33), (.tmp 38), (.tmp 43)]), [], .none⟩, ⟨(.some 45), .none, (.mov (.tmp 0)), [], .none⟩, ⟨(.some 46), .none, (.nilc (.tmp 45)), [], .none⟩, ⟨(.some 47), .none, (.faddr 1 1 (.tmp 46)), [], .none⟩, ⟨(.some 48), .none, (.load .false 1 (.tmp 47)), [50], .none⟩, ⟨(.some 49), .none, (.build (.st [1, 1] [(.lit (.slice .none 0 0)), (.lit (.map .none))]) [(0, (.tmp 44)), (1, (.tmp 48))]), [], .none⟩, ⟨(.some 50), .none, (.box 2 (.tmp 49)), [], .none⟩, ⟨(.some 8), .none, (.mov (.tmp 50)), [], .none⟩]) (.seq (.reg [⟨(.some 51), .none, (.mov (.tmp 5)), [], .none⟩, ⟨(.some 52), .none, (.mov (.tmp 8)), [], .none⟩, ⟨(.some 53), .none, (.nilc (.tmp 51)), [], .none⟩, ⟨(.some 54), .none, (.faddr 0 0 (.tmp 53)), [], .none⟩, ⟨.none, .none, (.store 1 (.tmp 54) (.tmp 52)), [], .none⟩]) (.seq (.reg [⟨(.some 55), .none, (.mov (.tmp 5)), [], .none⟩, ⟨(.some 56), .none, (.rdp (.mkfn (.func 23) 1) [(.tmp 55)]), [], .none⟩, ⟨(.some 4), .none, (.mov (.tmp 56)), [], .none⟩]) .ret)))))))
def fc418 : FC := ⟨2, 57, [(.tmp 4)], fb418⟩
theorem fc418_eq : compF Go.Proofs.Try.prog 13 = some fc418 := by kernel_rfl

/-- A row's value, in the caller's world. -/
theorem XCall.shape {P : Program} {f : FuncId} {vs : List AV} {H : List (Option Blk)} {K : AV → List (Option Blk) → Prop} {j e esz sl : Nat} {V : Value} {els : List AV} (hj : H[j]? = some (some (.row e V esz els sl)))
    (h : ((V = .slice none 0 0 ∧ els = []) ∨ ∃ g c, V = .slice (some ⟨g, 0, none⟩) els.length c ∧ els.length ≤ c) → XCall P f vs H K) : XCall P f vs H K := by
  intro w0 w regs Imm Vs hfr hth hheap hargs
  refine h ?_ w0 w regs Imm Vs hfr hth hheap hargs
  obtain ⟨⟨cs, hR, hown, _⟩, _⟩ := hheap.ok j _ (show (H[j]?).join = _ by rw [hj]; rfl)
  obtain ⟨hlen, hown2⟩ := hown
  rcases hown2 with ⟨h1, hn⟩ | ⟨g, cap, cur, rfl, h0, hg, hcapn, hcapm, hcs, htake⟩
  · exact .inl ⟨h1, List.eq_nil_of_length_eq_zero hn⟩
  · exact .inr ⟨g, cap, rfl, by omega⟩

/-! ### Plain: what a round turns -/
theorem learnV_cnt (known : List Bool) (k : List UInt8) : (learnV known k).2.count false + (if (learnV known k).1 then 1 else 0) = known.count false ∧ ((learnV known k).1 = false → (learnV known k).2 = known) := by
  unfold learnV
  split
  · rename_i h
    obtain ⟨_, h2, h3⟩ := h
    refine ⟨?_, by simp⟩
    rw [List.getD_eq_getElem?_getD, List.getElem?_eq_getElem h2] at h3
    simp only [Option.getD_some] at h3
    simp only [if_true]
    rw [List.count_set h2]
    have := List.count_pos_iff.2 (show false ∈ known by rw [← h3]; exact List.getElem_mem h2)
    simp [h3]
    omega
  · simp
/-- Nothing is forgotten, and what is new is told. -/
def MoreOk (known : List Bool) (more : Bool) (y : List Bool × Bool) : Prop := y.1.count false ≤ known.count false ∧ (y.2 = true → more = true ∨ y.1.count false < known.count false) ∧ (y.2 = false → more = false ∧ y.1 = known)
theorem MoreOk.refl (known : List Bool) (more : Bool) : MoreOk known more (known, more) := ⟨Nat.le_refl _, .inl, fun h => ⟨h, rfl⟩⟩
theorem MoreOk.trans {known : List Bool} {more : Bool} {y z : List Bool × Bool} (h : MoreOk known more y) (k : MoreOk y.1 y.2 z) : MoreOk known more z := by
  obtain ⟨h1, h2, h3⟩ := h
  obtain ⟨k1, k2, k3⟩ := k
  refine ⟨by omega, fun hz => ?_, fun hz => ?_⟩
  · rcases k2 hz with h | h
    · rcases h2 h with h | h
      · exact .inl h
      · exact .inr (by omega)
    · exact .inr (by omega)
  · obtain ⟨a, b⟩ := k3 hz
    obtain ⟨c, d⟩ := h3 a
    exact ⟨c, by rw [b, d]⟩
theorem MoreOk.learn (known : List Bool) (more : Bool) (k : List UInt8) : MoreOk known more ((learnV known k).2, (learnV known k).1 || more) := by
  obtain ⟨h1, h2⟩ := learnV_cnt known k
  generalize learnV known k = l at *
  obtain ⟨b, k2⟩ := l
  simp only at h1 h2 ⊢
  cases b with
  | true => exact ⟨by simp at h1; simp only; omega, fun _ => .inr (by simp at h1; simp only; omega), by simp⟩
  | false =>
    have := h2 rfl
    subst this
    simp only [Bool.false_or]
    exact MoreOk.refl _ _
theorem MoreOk.learnL : ∀ (ks : List (List UInt8)) (known : List Bool) (more : Bool), MoreOk known more (learnL known more ks)
  | [], known, more => MoreOk.refl _ _
  | k :: ks, known, more => (MoreOk.learn known more k).trans (MoreOk.learnL ks _ _)
theorem MoreOk.step1 (ts : List Term) (i : Nat) (known : List Bool) (more : Bool) (x : Term) : MoreOk known more (step1 ts i known more x) := by
  unfold Cab.step1
  split
  · rename_i h
    have hi : i < known.length := by
      by_cases h' : i < known.length
      · exact h'
      · have := h.1; rw [List.getD_eq_getElem?_getD, List.getElem?_eq_none (by omega)] at this; cases this
    have h3 := h.1
    rw [List.getD_eq_getElem?_getD, List.getElem?_eq_getElem hi] at h3
    simp only [Option.getD_some] at h3
    have hc := List.count_pos_iff.2 (show false ∈ known by rw [← h3]; exact List.getElem_mem hi)
    have : (known.set i true).count false < known.count false := by
      rw [List.count_set hi]; simp [h3]; omega
    exact ⟨by simp only; omega, fun _ => .inr this, by simp⟩
  · exact MoreOk.refl _ _
theorem MoreOk.step2 (i : Nat) (known : List Bool) (more : Bool) (x : Term) : MoreOk known more (step2 i known more x) := by
  unfold Cab.step2
  split
  · exact MoreOk.learnL _ _ _
  · exact MoreOk.refl _ _
theorem MoreOk.roundG (ts : List Term) : ∀ (xs : List Term) (i : Nat) (known : List Bool) (more : Bool), MoreOk known more (roundG ts xs i known more)
  | [], _, _, _ => MoreOk.refl _ _
  | x :: xs, i, known, more => ((MoreOk.step1 ts i known more x).trans (MoreOk.step2 i _ _ x)).trans (MoreOk.roundG ts xs _ _ _)

def learnS : List Bool → List (List UInt8) → List Bool
  | known, [] => known
  | known, k :: ks => learnS (learnV known k).2 ks
theorem learnS_len : ∀ (ks : List (List UInt8)) (known : List Bool), (learnS known ks).length = known.length
  | [], _ => rfl
  | k :: ks, known => by rw [learnS, learnS_len ks, learnV_len]
/-- Rounds, one behind the other. -/
inductive Rounds (ts : List Term) : List Bool → List Bool → Prop
  | refl (k) : Rounds ts k k
  | step (k k') : Rounds ts k k' → Rounds ts k (roundV ts k').1
/-- All that follows of what was seen. -/
structure FolOk (ts : List Term) (seen : List (List UInt8)) (K : List Bool) : Prop where
  of : Rounds ts (learnS (List.replicate ts.length false) seen) K
  end_ : roundV ts K = (K, false)
theorem Rounds.len {ts : List Term} {a b : List Bool} (h : Rounds ts a b) : b.length = a.length := by
  induction h with
  | refl => rfl
  | step k' _ ih => unfold roundV; rw [roundG_len, ih]
theorem FolOk.len {ts : List Term} {seen : List (List UInt8)} {K : List Bool} (h : FolOk ts seen K) : K.length = ts.length := by rw [h.of.len, learnS_len, List.length_replicate]

def cloH (b : Nat) (l : Nat × Nat) : AV := .fnv (.func 23) [.ptr b l 0 []] []
theorem tgt_cloH (b : Nat) (l : Nat × Nat) (x : AV) : tgtA Go.Proofs.Try.prog .val [cloH b l, x] = some (23, [.ptr b l 0 [], x]) := by kernel_rfl
theorem mkfn_cloH (b : Nat) (l : Nat × Nat) : rdA Go.Proofs.Try.prog (fun _ => none) (.mkfn (.func 23) 1) [.ptr b l 0 []] = some (cloH b l) := by kernel_rfl
def FolK (H : List (Option Blk)) (ts : List Term) (seen : List (List UInt8)) (r : AV) (H' : List (Option Blk)) : Prop :=
  ∃ K f Vk L', FolOk ts seen K ∧ r = cloH f.b f.l ∧ H' = H ++ L' ∧ ∀ G : List (Option Blk), G.length = H.length → FcOk (G ++ L') f Vk K
/-! ### The walk -/

set_option maxHeartbeats 64000000 in
theorem follow_sl {H : List (Option Blk)} {t : Tb} {V : Value} {ts : List Term} (hT : TbOk H t V ts) (hts : TsOk ts) {seen : List (List UInt8)} (hsl : seen.length < 100000) (h32 : ∀ k ∈ seen, k.length = 32) :
    XCall Go.Proofs.Try.prog 13 [.ptr t.b t.l 0 [], .sl 32 (klA seen)] H (FolK H ts seen) := by
  refine XCall.shape (j := t.j) (e := 74) (V := V) (esz := 3) (els := ts.map termA) (sl := 0) hT.hj fun hV => ?_
  have h418 := fc418_eq
  refine XCall.le ?_
  have lb := hT.lb
  have lj := hT.lj
  have lm := hT.lm
  have hlen := hts.len
  have htb := hT.hb
  have htj := hT.hj
  unfold tbk at htb
  unfold trk at htj
  refine XCall.of h418 rfl ?_; show AC.wp _ fb418 ⟨H.length, [.ptr t.b t.l 0 [], .sl 32 (klA seen)] ++ List.replicate (57 - 2) .any, H ++ List.replicate 57 none⟩ (fun x s => match x with | .exit _ => False | _ => ∃ s1, Le s s1 ∧ FinX [(.tmp 4)] s1 _); unfold fb418
  generalize hN : H.length = N at *
  have q1 : ∀ L k, (H ++ L)[N + k]? = L[k]? := fun L k => cat1 N H L k hN
  have q2 : ∀ L k x, (H ++ L).set (N + k) x = H ++ L.set k x := fun L k x => cat2 N H L k x hN
  have q6 : ∀ L, (H ++ L)[t.b]? = some (some (.box t.l 2 (.st [1, 1] [.own t.j V, .own t.m (.map (some t.r))]))) := fun L => by rw [cat4 N H L _ hN lb]; exact htb
  have q7 : ∀ L, (H ++ L)[t.j]? = some (some (.row 74 V 3 (ts.map termA) 0)) := fun L => by rw [cat4 N H L _ hN lj]; exact htj
  have hml : (ts.map termA).length = ts.length := List.length_map _
  refine wp_sr (by simp [push_cast]; exact rfl) (wp_sg ?_)
  refine areg_run 6 (by simp [push_cast, q6, q7, hml]; exact rfl) ?_
  refine areg_mk (n := ts.length) rfl rfl (by simp [maxLen]; omega) (by omega) fun Vk => ?_
  refine areg_run 1 (by simp [push_cast, q2]; exact rfl) ?_
  refine areg_bx rfl rfl fun l17 => areg_end (by simp [push_cast, q2]; exact rfl) ?_
  -- the state, with so much known
  obtain ⟨f, hf⟩ : ∃ f : Fc, f = ⟨N + 17, l17, N + 15, t.b, t.l⟩ := ⟨_, rfl⟩
  have hFt : ∀ (kw : List Bool) (L : List (Option Blk)), kw.length = ts.length → L[15]? = some (some (frk Vk kw)) → L[17]? = some (some (.box l17 2 (.st [1, 1] [.ptr t.b t.l 0 [], .own (N + 15) Vk]))) → FtOk (H ++ L) f t V ts Vk kw := fun kw L hk e15 e17 => by
    subst hf
    exact ⟨⟨by rw [q1]; exact e17, by rw [q1]; exact e15, by rw [hk]; exact (hT.app L).tabX, by omega⟩, hT.app L, rfl, rfl, hk, by simp only; omega, by simp only; omega, by simp only; omega, by simp⟩
  have hko : ∀ (kw : List Bool) (L : List (Option Blk)), kOf (H ++ L) f Vk kw = H ++ L.set 15 (some (frk Vk kw)) := fun kw L => by subst hf; exact q2 L 15 _
  have frk1 : ∀ kw, frk Vk kw = .row 4 Vk 1 (kwA kw) 0 := fun _ => rfl
  refine wp_seq' (wp_seq' (wp_r (by simp [push_cast, klA_len]; exact rfl) ?_))
  refine wp_block' (wp_loop_m (fun (x : Nat × List Bool) => (⟨N, [.ptr t.b t.l 0 [], .sl 32 (klA seen), .any, .any, .lit .nilFunc, .ptr (N + 17) l17 0 []] ++ List.replicate 12 .any ++ [.sl 32 (klA seen), .lit (jn seen.length), .lit (jn x.1)] ++ List.replicate 36 .any, H ++ (List.replicate 15 none ++ [some (frk Vk x.2), none, some (.box l17 2 (.st [1, 1] [.ptr t.b t.l 0 [], .own (N + 15) Vk]))] ++ List.replicate 39 none)⟩ : AS))
    (fun x => seen.length - x.1) (fun x => learnS x.2 (seen.drop x.1) = learnS (List.replicate ts.length false) seen ∧ x.1 ≤ seen.length ∧ x.2.length = ts.length) (0, List.replicate ts.length false) (Le.mk rfl (by simp [leT]) ?_) ⟨rfl, by simp, by simp⟩ ?_)
  · exact leH_app (leH_refl _) (by simp [leH, frk1, kwA])
  rintro ⟨i, kw⟩ ⟨hI, hi, hkl⟩
  simp only at hI hi hkl ⊢
  by_cases hlt : i < seen.length
  · obtain ⟨u, hu⟩ : ∃ u, seen[i]? = some u := ⟨_, List.getElem?_eq_getElem hlt⟩
    have hdrop : seen.drop i = u :: seen.drop (i + 1) := by
      rw [List.drop_eq_getElem_cons hlt]
      rw [List.getElem?_eq_getElem hlt] at hu
      rw [Option.some.inj hu]
    rw [hdrop, learnS] at hI
    have hu32 := h32 u (List.mem_of_getElem? hu)
    have j1 : (klA seen)[i]? = some (keyA u) := by rw [klA_get, hu]; rfl
    have j2 : ∀ h, (klA seen)[i]'h = keyA u := fun h => by rw [List.getElem?_eq_getElem h] at j1; exact Option.some.inj j1
    have j3 : i + 1 < 9223372036854775808 := by omega
    have cl := fun L e15 e17 => learn_call (hFt kw L hkl e15 e17).fc hu32
    have hl4 := learnV_len kw u
    generalize learnV kw u = lv at *
    obtain ⟨b5, k5⟩ := lv
    simp only at hI hl4 cl
    have hfb : f.b = N + 17 := by rw [hf]
    have hfl : f.l = l17 := by rw [hf]
    rw [hfb, hfl] at cl
    refine wp_sr (by simp [push_cast, hlt]; exact rfl) (wp_seq' (wp_cond_t (by simp [AS.ev]) (wp_skip' ?_)))
    refine wp_seq' (wp_block' (wp_sg ?_))
    refine areg_run 2 (by simp [push_cast, j1, j2, hlt, klA_len]; exact rfl) ?_
    refine areg_al' zk_eq.symm fun l7 => areg_end (by simp [push_cast, q1, q2, hu32]; exact rfl) ?_
    refine wp_rg ?_
    refine areg_run 2 (by simp [push_cast, q1, hu32]; exact rfl) ?_
    refine areg_xc rfl (cl _ rfl rfl) ⟨_, _, rfl, rfl⟩ ?_
    rintro _ _ ⟨rfl, rfl⟩
    rw [hko]
    refine areg_end (by simp [push_cast]; exact rfl) ?_
    refine wp_r (by simp [push_cast, j3]; exact rfl) ?_
    exact Exists.intro (i + 1, k5) ⟨⟨hI, by omega, by simp only; omega⟩, by simp only; omega, Le.mk rfl (by simp [leT]) (leH_app (leH_refl _) (by simp [leH]))⟩
  have hin : i = seen.length := by omega
  subst hin
  rw [List.drop_length, learnS] at hI
  refine wp_sr (by simp [push_cast]; exact rfl) (wp_seq' (wp_cond_f (by simp [AS.ev]) (wp_exit' (if_hit rfl ?_))))
  -- rounds
  refine wp_seqL (wp_block' (wp_loop_m (fun kw : List Bool => (⟨N, [.ptr t.b t.l 0 [], .sl 32 (klA seen), .any, .any, .lit .nilFunc, .ptr (N + 17) l17 0 []] ++ List.replicate 51 .any, H ++ (List.replicate 15 none ++ [some (frk Vk kw), none, some (.box l17 2 (.st [1, 1] [.ptr t.b t.l 0 [], .own (N + 15) Vk]))] ++ List.replicate 39 none)⟩ : AS))
    (fun kw => kw.count false) (fun kw => Rounds ts (learnS (List.replicate ts.length false) seen) kw) kw (Le.mk rfl (by simp [leT]) (leH_app (leH_refl _) (by simp [leH]))) (by rw [hI]; exact .refl _) ?_))
  clear hI hkl
  clear kw
  intro kw hR
  have hkl : kw.length = ts.length := by rw [hR.len, learnS_len, List.length_replicate]
  simp only
  have cr := fun L e15 e17 => round_call (hFt kw L hkl e15 e17) hts
  have hstep := Rounds.step _ _ hR
  have hmo : MoreOk kw false (roundV ts kw) := MoreOk.roundG ts ts 0 kw false
  have hrl : (roundV ts kw).1.length = kw.length := roundG_len ts ts 0 kw false
  generalize hrv : roundV ts kw = rv at *
  obtain ⟨k6, b6⟩ := rv
  obtain ⟨m1, m2, m3⟩ := hmo
  simp only at m1 m2 m3 cr hstep hrl
  have hfb : f.b = N + 17 := by rw [hf]
  have hfl : f.l = l17 := by rw [hf]
  rw [hfb, hfl] at cr
  refine wp_seq' (wp_seq' (wp_rg ?_))
  refine areg_run 1 (by simp [push_cast]; exact rfl) ?_
  refine areg_xc rfl (cr _ rfl rfl) ⟨_, _, rfl, rfl⟩ ?_
  rintro _ _ ⟨rfl, rfl⟩
  rw [hko]
  refine areg_end (by simp [push_cast]; exact rfl) ?_
  cases b6 with
  | true =>
    refine wp_cond_t (by simp [AS.ev]) (wp_skip' (wp_block' (wp_skip' ?_)))
    refine Exists.intro k6 ⟨hstep, ?_, Le.mk rfl (by simp [leT]) (leH_app (leH_refl _) (by simp [leH]))⟩
    rcases m2 rfl with h | h
    · cases h
    · exact h
  | false =>
    obtain ⟨_, hkk⟩ := m3 rfl
    subst hkk
    refine wp_cond_f (by simp [AS.ev]) (wp_exit' (if_hit rfl ?_))
    refine ⟨_, Le.refl _, ?_⟩
    have hfo : FolOk ts seen k6 := ⟨hR, hrv⟩
    have hfin : ∀ (x8 : AV) (l50 : Nat × Nat), LenX [] x8 ts.length → FolK H ts seen (cloH (N + 17) l17) (H ++ (List.replicate 15 none ++ [some (frk Vk k6), none, some (.box l17 2 (.st [1, 1] [.ptr (N + 50) l50 0 [], .own (N + 15) Vk]))] ++ List.replicate 32 none ++ [some (.box l50 2 (.st [1, 1] [x8, .own t.m (.map (some t.r))]))])) := fun x8 l50 h8 => by
      refine ⟨k6, ⟨N + 17, l17, N + 15, N + 50, l50⟩, Vk, _, hfo, rfl, rfl, fun G hG => ?_⟩
      have e := fun k => cat1 N G (List.replicate 15 none ++ [some (frk Vk k6), none, some (.box l17 2 (.st [1, 1] [.ptr (N + 50) l50 0 [], .own (N + 15) Vk]))] ++ List.replicate 32 none ++ [some (.box l50 2 (.st [1, 1] [x8, .own t.m (.map (some t.r))]))]) k (by omega)
      refine ⟨by rw [e]; rfl, by rw [e]; rfl, ⟨x8, .own t.m (.map (some t.r)), by rw [e]; rfl, ?_⟩, by omega⟩
      rw [hkl]
      rcases h8 with ⟨j, V, els, sl, _, h, _⟩ | h | h
      · simp at h
      · exact .inr (.inl h)
      · exact .inr (.inr h)
    have hfin2 : ∀ (x8 : AV) (l50 : Nat × Nat) (R : List (Option Blk)) (s : AS), LenX [] x8 ts.length → RVal s (.tmp 4) = some (cloH (N + 17) l17) → s.hp = H ++ (List.replicate 15 none ++ [some (frk Vk k6), none, some (.box l17 2 (.st [1, 1] [.ptr (N + 50) l50 0 [], .own (N + 15) Vk]))] ++ List.replicate 32 none ++ [some (.box l50 2 (.st [1, 1] [x8, .own t.m (.map (some t.r))]))]) ++ R → ∃ s1, Le s s1 ∧ FinX [RV.tmp 4] s1 fun r H' => ∃ r' A, RelLe r r' ∧ r' ≠ .any ∧ HpLe H' A ∧ FolK H ts seen r' A := fun x8 l50 R s h8 hr hR =>
      ⟨s, Le.refl _, finX1 hr (by simp [cloH]) ⟨_, _, RelLe.refl _, by simp [cloH], by rw [hR]; exact HpLe.trim _ _, hfin x8 l50 h8⟩⟩
    refine wp_sg ?_
    have n50 : ¬ t.b = N + 50 := by omega
    have n50j : ¬ t.j = N + 50 := by omega
    refine areg_run 14 (by simp [push_cast, q6, q7, hml, n50, n50j]; exact rfl) ?_
    rcases hV with ⟨rfl, hnil⟩ | ⟨g, cc, hVs, hcc⟩
    · have hz : ts.length = 0 := by rw [← hml, hnil]; rfl
      refine areg_rdp (us := [.own t.j (.slice none 0 0), .lit (jn ts.length), .lit (jn ts.length)]) (v := .lit (.slice none 0 0)) rfl (by rw [hz]; simp [rdA, rdB, jn]) ?_
      refine areg_run 5 (by simp [push_cast, q6, n50]; exact rfl) ?_
      refine areg_bx rfl rfl fun l50 => areg_end (by simp [push_cast, q2]; exact rfl) ?_
      refine wp_sr (by simp [push_cast, q1, q2]; exact rfl) ?_
      refine wp_sg ?_
      refine areg_run 1 (by simp [push_cast]; exact rfl) ?_
      refine areg_rdp (us := [.ptr (N + 17) l17 0 []]) rfl (mkfn_cloH _ _) ?_
      refine areg_end (by simp [push_cast]; exact rfl) (wp_ret' ?_)
      exact hfin2 (.lit (.slice none 0 0)) l50 (List.replicate 6 none) _ (.inr (.inr ⟨rfl, hz⟩)) (by simp [RVal, AS.ev, AS.coe, cloH]) (by simp)
    · rw [hml] at hVs hcc
      have hcap : rdA Go.Proofs.Try.prog (fun _ => none) (.cap3 3) [.own t.j V, .lit (jn ts.length), .lit (jn ts.length)] = some (.view 0 (g, 0) 0 [] 3 0 ts.length ts.length) := by
        subst hVs
        simp [rdA, rdB, jn, hcc]
      refine areg_rdp (us := [.own t.j V, .lit (jn ts.length), .lit (jn ts.length)]) (v := .view 0 (g, 0) 0 [] 3 0 ts.length ts.length) rfl hcap ?_
      refine areg_run 5 (by simp [push_cast, q6, n50]; exact rfl) ?_
      refine areg_bx rfl rfl fun l50 => areg_end (by simp [push_cast, q2]; exact rfl) ?_
      refine wp_sr (by simp [push_cast, q1, q2]; exact rfl) ?_
      refine wp_sg ?_
      refine areg_run 1 (by simp [push_cast]; exact rfl) ?_
      refine areg_rdp (us := [.ptr (N + 17) l17 0 []]) rfl (mkfn_cloH _ _) ?_
      refine areg_end (by simp [push_cast]; exact rfl) (wp_ret' ?_)
      exact hfin2 (.view 0 (g, 0) 0 [] 3 0 ts.length ts.length) l50 (List.replicate 6 none) _ (.inr (.inl ⟨_, _, _, _, _, _, rfl⟩)) (by simp [RVal, AS.ev, AS.coe, cloH]) (by simp)

set_option maxHeartbeats 64000000 in
theorem follow_own {H : List (Option Blk)} {t : Tb} {V : Value} {ts : List Term} (hT : TbOk H t V ts) (hts : TsOk ts) {seen : List (List UInt8)} (hsl : seen.length < 100000) (h32 : ∀ k ∈ seen, k.length = 32) {c sl : Nat} {Vc : Value} (hc : H[c]? = some (some (.row 28 Vc 32 (klA seen) sl))) :
    XCall Go.Proofs.Try.prog 13 [.ptr t.b t.l 0 [], .own c Vc] H (FolK H ts seen) := by
  refine XCall.shape (j := t.j) (e := 74) (V := V) (esz := 3) (els := ts.map termA) (sl := 0) hT.hj fun hV => ?_
  have h418 := fc418_eq
  refine XCall.le ?_
  have lb := hT.lb
  have lj := hT.lj
  have lm := hT.lm
  have hlen := hts.len
  have htb := hT.hb
  have htj := hT.hj
  unfold tbk at htb
  unfold trk at htj
  refine XCall.of h418 rfl ?_; show AC.wp _ fb418 ⟨H.length, [.ptr t.b t.l 0 [], .own c Vc] ++ List.replicate (57 - 2) .any, H ++ List.replicate 57 none⟩ (fun x s => match x with | .exit _ => False | _ => ∃ s1, Le s s1 ∧ FinX [(.tmp 4)] s1 _); unfold fb418
  generalize hN : H.length = N at *
  have lc := (List.getElem?_eq_some_iff.1 hc).1
  have qc : ∀ L, (H ++ L)[c]? = some (some (.row 28 Vc 32 (klA seen) sl)) := fun L => by rw [cat4 N H L _ hN (by omega)]; exact hc
  have q1 : ∀ L k, (H ++ L)[N + k]? = L[k]? := fun L k => cat1 N H L k hN
  have q2 : ∀ L k x, (H ++ L).set (N + k) x = H ++ L.set k x := fun L k x => cat2 N H L k x hN
  have q6 : ∀ L, (H ++ L)[t.b]? = some (some (.box t.l 2 (.st [1, 1] [.own t.j V, .own t.m (.map (some t.r))]))) := fun L => by rw [cat4 N H L _ hN lb]; exact htb
  have q7 : ∀ L, (H ++ L)[t.j]? = some (some (.row 74 V 3 (ts.map termA) 0)) := fun L => by rw [cat4 N H L _ hN lj]; exact htj
  have hml : (ts.map termA).length = ts.length := List.length_map _
  refine wp_sr (by simp [push_cast]; exact rfl) (wp_sg ?_)
  refine areg_run 6 (by simp [push_cast, q6, q7, hml]; exact rfl) ?_
  refine areg_mk (n := ts.length) rfl rfl (by simp [maxLen]; omega) (by omega) fun Vk => ?_
  refine areg_run 1 (by simp [push_cast, q2]; exact rfl) ?_
  refine areg_bx rfl rfl fun l17 => areg_end (by simp [push_cast, q2]; exact rfl) ?_
  -- the state, with so much known
  obtain ⟨f, hf⟩ : ∃ f : Fc, f = ⟨N + 17, l17, N + 15, t.b, t.l⟩ := ⟨_, rfl⟩
  have hFt : ∀ (kw : List Bool) (L : List (Option Blk)), kw.length = ts.length → L[15]? = some (some (frk Vk kw)) → L[17]? = some (some (.box l17 2 (.st [1, 1] [.ptr t.b t.l 0 [], .own (N + 15) Vk]))) → FtOk (H ++ L) f t V ts Vk kw := fun kw L hk e15 e17 => by
    subst hf
    exact ⟨⟨by rw [q1]; exact e17, by rw [q1]; exact e15, by rw [hk]; exact (hT.app L).tabX, by omega⟩, hT.app L, rfl, rfl, hk, by simp only; omega, by simp only; omega, by simp only; omega, by simp⟩
  have hko : ∀ (kw : List Bool) (L : List (Option Blk)), kOf (H ++ L) f Vk kw = H ++ L.set 15 (some (frk Vk kw)) := fun kw L => by subst hf; exact q2 L 15 _
  have frk1 : ∀ kw, frk Vk kw = .row 4 Vk 1 (kwA kw) 0 := fun _ => rfl
  refine wp_seq' (wp_seq' (wp_r (by simp [push_cast, qc, klA_len]; exact rfl) ?_))
  refine wp_block' (wp_loop_m (fun (x : Nat × List Bool) => (⟨N, [.ptr t.b t.l 0 [], .own c Vc, .any, .any, .lit .nilFunc, .ptr (N + 17) l17 0 []] ++ List.replicate 12 .any ++ [.own c Vc, .lit (jn seen.length), .lit (jn x.1)] ++ List.replicate 36 .any, H ++ (List.replicate 15 none ++ [some (frk Vk x.2), none, some (.box l17 2 (.st [1, 1] [.ptr t.b t.l 0 [], .own (N + 15) Vk]))] ++ List.replicate 39 none)⟩ : AS))
    (fun x => seen.length - x.1) (fun x => learnS x.2 (seen.drop x.1) = learnS (List.replicate ts.length false) seen ∧ x.1 ≤ seen.length ∧ x.2.length = ts.length) (0, List.replicate ts.length false) (Le.mk rfl (by simp [leT]) ?_) ⟨rfl, by simp, by simp⟩ ?_)
  · exact leH_app (leH_refl _) (by simp [leH, frk1, kwA])
  rintro ⟨i, kw⟩ ⟨hI, hi, hkl⟩
  simp only at hI hi hkl ⊢
  by_cases hlt : i < seen.length
  · obtain ⟨u, hu⟩ : ∃ u, seen[i]? = some u := ⟨_, List.getElem?_eq_getElem hlt⟩
    have hdrop : seen.drop i = u :: seen.drop (i + 1) := by
      rw [List.drop_eq_getElem_cons hlt]
      rw [List.getElem?_eq_getElem hlt] at hu
      rw [Option.some.inj hu]
    rw [hdrop, learnS] at hI
    have hu32 := h32 u (List.mem_of_getElem? hu)
    have j1 : (klA seen)[i]? = some (keyA u) := by rw [klA_get, hu]; rfl
    have j2 : ∀ h, (klA seen)[i]'h = keyA u := fun h => by rw [List.getElem?_eq_getElem h] at j1; exact Option.some.inj j1
    have j3 : i + 1 < 9223372036854775808 := by omega
    have cl := fun L e15 e17 => learn_call (hFt kw L hkl e15 e17).fc hu32
    have hl4 := learnV_len kw u
    generalize learnV kw u = lv at *
    obtain ⟨b5, k5⟩ := lv
    simp only at hI hl4 cl
    have hfb : f.b = N + 17 := by rw [hf]
    have hfl : f.l = l17 := by rw [hf]
    rw [hfb, hfl] at cl
    refine wp_sr (by simp [push_cast, hlt]; exact rfl) (wp_seq' (wp_cond_t (by simp [AS.ev]) (wp_skip' ?_)))
    refine wp_seq' (wp_block' (wp_sg ?_))
    refine areg_run 2 (by simp [push_cast, qc, j1, j2, hlt, klA_len]; exact rfl) ?_
    refine areg_al' zk_eq.symm fun l7 => areg_end (by simp [push_cast, q1, q2, hu32]; exact rfl) ?_
    refine wp_rg ?_
    refine areg_run 2 (by simp [push_cast, q1, hu32]; exact rfl) ?_
    refine areg_xc rfl (cl _ rfl rfl) ⟨_, _, rfl, rfl⟩ ?_
    rintro _ _ ⟨rfl, rfl⟩
    rw [hko]
    refine areg_end (by simp [push_cast]; exact rfl) ?_
    refine wp_r (by simp [push_cast, j3]; exact rfl) ?_
    exact Exists.intro (i + 1, k5) ⟨⟨hI, by omega, by simp only; omega⟩, by simp only; omega, Le.mk rfl (by simp [leT]) (leH_app (leH_refl _) (by simp [leH]))⟩
  have hin : i = seen.length := by omega
  subst hin
  rw [List.drop_length, learnS] at hI
  refine wp_sr (by simp [push_cast]; exact rfl) (wp_seq' (wp_cond_f (by simp [AS.ev]) (wp_exit' (if_hit rfl ?_))))
  -- rounds
  refine wp_seqL (wp_block' (wp_loop_m (fun kw : List Bool => (⟨N, [.ptr t.b t.l 0 [], .own c Vc, .any, .any, .lit .nilFunc, .ptr (N + 17) l17 0 []] ++ List.replicate 51 .any, H ++ (List.replicate 15 none ++ [some (frk Vk kw), none, some (.box l17 2 (.st [1, 1] [.ptr t.b t.l 0 [], .own (N + 15) Vk]))] ++ List.replicate 39 none)⟩ : AS))
    (fun kw => kw.count false) (fun kw => Rounds ts (learnS (List.replicate ts.length false) seen) kw) kw (Le.mk rfl (by simp [leT]) (leH_app (leH_refl _) (by simp [leH]))) (by rw [hI]; exact .refl _) ?_))
  clear hI hkl
  clear kw
  intro kw hR
  have hkl : kw.length = ts.length := by rw [hR.len, learnS_len, List.length_replicate]
  simp only
  have cr := fun L e15 e17 => round_call (hFt kw L hkl e15 e17) hts
  have hstep := Rounds.step _ _ hR
  have hmo : MoreOk kw false (roundV ts kw) := MoreOk.roundG ts ts 0 kw false
  have hrl : (roundV ts kw).1.length = kw.length := roundG_len ts ts 0 kw false
  generalize hrv : roundV ts kw = rv at *
  obtain ⟨k6, b6⟩ := rv
  obtain ⟨m1, m2, m3⟩ := hmo
  simp only at m1 m2 m3 cr hstep hrl
  have hfb : f.b = N + 17 := by rw [hf]
  have hfl : f.l = l17 := by rw [hf]
  rw [hfb, hfl] at cr
  refine wp_seq' (wp_seq' (wp_rg ?_))
  refine areg_run 1 (by simp [push_cast]; exact rfl) ?_
  refine areg_xc rfl (cr _ rfl rfl) ⟨_, _, rfl, rfl⟩ ?_
  rintro _ _ ⟨rfl, rfl⟩
  rw [hko]
  refine areg_end (by simp [push_cast]; exact rfl) ?_
  cases b6 with
  | true =>
    refine wp_cond_t (by simp [AS.ev]) (wp_skip' (wp_block' (wp_skip' ?_)))
    refine Exists.intro k6 ⟨hstep, ?_, Le.mk rfl (by simp [leT]) (leH_app (leH_refl _) (by simp [leH]))⟩
    rcases m2 rfl with h | h
    · cases h
    · exact h
  | false =>
    obtain ⟨_, hkk⟩ := m3 rfl
    subst hkk
    refine wp_cond_f (by simp [AS.ev]) (wp_exit' (if_hit rfl ?_))
    refine ⟨_, Le.refl _, ?_⟩
    have hfo : FolOk ts seen k6 := ⟨hR, hrv⟩
    have hfin : ∀ (x8 : AV) (l50 : Nat × Nat), LenX [] x8 ts.length → FolK H ts seen (cloH (N + 17) l17) (H ++ (List.replicate 15 none ++ [some (frk Vk k6), none, some (.box l17 2 (.st [1, 1] [.ptr (N + 50) l50 0 [], .own (N + 15) Vk]))] ++ List.replicate 32 none ++ [some (.box l50 2 (.st [1, 1] [x8, .own t.m (.map (some t.r))]))])) := fun x8 l50 h8 => by
      refine ⟨k6, ⟨N + 17, l17, N + 15, N + 50, l50⟩, Vk, _, hfo, rfl, rfl, fun G hG => ?_⟩
      have e := fun k => cat1 N G (List.replicate 15 none ++ [some (frk Vk k6), none, some (.box l17 2 (.st [1, 1] [.ptr (N + 50) l50 0 [], .own (N + 15) Vk]))] ++ List.replicate 32 none ++ [some (.box l50 2 (.st [1, 1] [x8, .own t.m (.map (some t.r))]))]) k (by omega)
      refine ⟨by rw [e]; rfl, by rw [e]; rfl, ⟨x8, .own t.m (.map (some t.r)), by rw [e]; rfl, ?_⟩, by omega⟩
      rw [hkl]
      rcases h8 with ⟨j, V, els, sl, _, h, _⟩ | h | h
      · simp at h
      · exact .inr (.inl h)
      · exact .inr (.inr h)
    have hfin2 : ∀ (x8 : AV) (l50 : Nat × Nat) (R : List (Option Blk)) (s : AS), LenX [] x8 ts.length → RVal s (.tmp 4) = some (cloH (N + 17) l17) → s.hp = H ++ (List.replicate 15 none ++ [some (frk Vk k6), none, some (.box l17 2 (.st [1, 1] [.ptr (N + 50) l50 0 [], .own (N + 15) Vk]))] ++ List.replicate 32 none ++ [some (.box l50 2 (.st [1, 1] [x8, .own t.m (.map (some t.r))]))]) ++ R → ∃ s1, Le s s1 ∧ FinX [RV.tmp 4] s1 fun r H' => ∃ r' A, RelLe r r' ∧ r' ≠ .any ∧ HpLe H' A ∧ FolK H ts seen r' A := fun x8 l50 R s h8 hr hR =>
      ⟨s, Le.refl _, finX1 hr (by simp [cloH]) ⟨_, _, RelLe.refl _, by simp [cloH], by rw [hR]; exact HpLe.trim _ _, hfin x8 l50 h8⟩⟩
    refine wp_sg ?_
    have n50 : ¬ t.b = N + 50 := by omega
    have n50j : ¬ t.j = N + 50 := by omega
    refine areg_run 14 (by simp [push_cast, q6, q7, hml, n50, n50j]; exact rfl) ?_
    rcases hV with ⟨rfl, hnil⟩ | ⟨g, cc, hVs, hcc⟩
    · have hz : ts.length = 0 := by rw [← hml, hnil]; rfl
      refine areg_rdp (us := [.own t.j (.slice none 0 0), .lit (jn ts.length), .lit (jn ts.length)]) (v := .lit (.slice none 0 0)) rfl (by rw [hz]; simp [rdA, rdB, jn]) ?_
      refine areg_run 5 (by simp [push_cast, q6, n50]; exact rfl) ?_
      refine areg_bx rfl rfl fun l50 => areg_end (by simp [push_cast, q2]; exact rfl) ?_
      refine wp_sr (by simp [push_cast, q1, q2]; exact rfl) ?_
      refine wp_sg ?_
      refine areg_run 1 (by simp [push_cast]; exact rfl) ?_
      refine areg_rdp (us := [.ptr (N + 17) l17 0 []]) rfl (mkfn_cloH _ _) ?_
      refine areg_end (by simp [push_cast]; exact rfl) (wp_ret' ?_)
      exact hfin2 (.lit (.slice none 0 0)) l50 (List.replicate 6 none) _ (.inr (.inr ⟨rfl, hz⟩)) (by simp [RVal, AS.ev, AS.coe, cloH]) (by simp)
    · rw [hml] at hVs hcc
      have hcap : rdA Go.Proofs.Try.prog (fun _ => none) (.cap3 3) [.own t.j V, .lit (jn ts.length), .lit (jn ts.length)] = some (.view 0 (g, 0) 0 [] 3 0 ts.length ts.length) := by
        subst hVs
        simp [rdA, rdB, jn, hcc]
      refine areg_rdp (us := [.own t.j V, .lit (jn ts.length), .lit (jn ts.length)]) (v := .view 0 (g, 0) 0 [] 3 0 ts.length ts.length) rfl hcap ?_
      refine areg_run 5 (by simp [push_cast, q6, n50]; exact rfl) ?_
      refine areg_bx rfl rfl fun l50 => areg_end (by simp [push_cast, q2]; exact rfl) ?_
      refine wp_sr (by simp [push_cast, q1, q2]; exact rfl) ?_
      refine wp_sg ?_
      refine areg_run 1 (by simp [push_cast]; exact rfl) ?_
      refine areg_rdp (us := [.ptr (N + 17) l17 0 []]) rfl (mkfn_cloH _ _) ?_
      refine areg_end (by simp [push_cast]; exact rfl) (wp_ret' ?_)
      exact hfin2 (.view 0 (g, 0) 0 [] 3 0 ts.length ts.length) l50 (List.replicate 6 none) _ (.inr (.inl ⟨_, _, _, _, _, _, rfl⟩)) (by simp [RVal, AS.ev, AS.coe, cloH]) (by simp)
end Go.Cab

/- What follows, plain: no more than any set that is closed; all that can be made. -/
-- TEXTS
-- KIT
namespace Go.Cab
open Classical

/-- Is it known? -/
def Kn (known : List Bool) (i : Nat) : Prop := known.getD i false = true
def KLe (a b : List Bool) : Prop := a.length = b.length ∧ ∀ i, Kn a i → Kn b i
theorem KLe.refl (a : List Bool) : KLe a a := ⟨rfl, fun _ h => h⟩
theorem KLe.trans {a b c : List Bool} (h : KLe a b) (k : KLe b c) : KLe a c := ⟨h.1.trans k.1, fun i x => k.2 i (h.2 i x)⟩
theorem Kn.lt {known : List Bool} {i : Nat} (h : Kn known i) : i < known.length := by
  by_cases hi : i < known.length
  · exact hi
  · unfold Kn at h; rw [List.getD_eq_getElem?_getD, List.getElem?_eq_none (by omega)] at h; cases h
theorem Kn.set {known : List Bool} {i j : Nat} (h : Kn (known.set i true) j) : j = i ∨ Kn known j := by
  by_cases e : i = j
  · exact .inl e.symm
  · refine .inr ?_
    unfold Kn at *
    rw [List.getD_eq_getElem?_getD, List.getElem?_set_ne e] at h
    rwa [List.getD_eq_getElem?_getD]
theorem Kn.of_set {known : List Bool} {i j : Nat} (h : Kn known j) : Kn (known.set i true) j := by
  unfold Kn at *
  rw [List.getD_eq_getElem?_getD, List.getElem?_set]
  split
  · split
    · rfl
    · rename_i e h'; subst e; exact absurd (Kn.lt h) h'
  · rwa [← List.getD_eq_getElem?_getD]
theorem Kn.set_self {known : List Bool} {i : Nat} (h : i < known.length) : Kn (known.set i true) i := by
  unfold Kn; rw [List.getD_eq_getElem?_getD, List.getElem?_set_self h]; rfl

theorem hasV_mono {a b : List Bool} (h : KLe a b) {k : List UInt8} (hk : hasV a k = true) : hasV b k = true := by
  unfold hasV at *
  split
  · rename_i e; rw [if_pos e] at hk; exact h.2 _ hk
  · rfl
theorem pubV_mono {a b : List Bool} (h : KLe a b) {ts : List Term} {k : List UInt8} (hk : pubV ts a k = true) : pubV ts b k = true := by
  unfold pubV at *
  simp only [Bool.or_eq_true] at hk ⊢
  rcases hk with hk | hk
  · exact .inl (hasV_mono h hk)
  · refine .inr ?_
    cases hf : findT (shapeT (pubT k)) ts 0 with
    | none => rw [hf] at hk; cases hk
    | some n => rw [hf] at hk; exact h.2 n hk
theorem madeV_mono {a b : List Bool} (h : KLe a b) {ts : List Term} {x : Term} (hk : madeV ts a x = true) : madeV ts b x = true := by
  unfold madeV at *
  split
  · rename_i e; rw [if_pos e] at hk; cases hk
  · rename_i e
    rw [if_neg e] at hk
    split
    · rename_i e4
      rw [if_pos e4] at hk
      simp only [Bool.or_eq_true, Bool.and_eq_true] at hk ⊢
      exact hk.imp (fun x => ⟨hasV_mono h x.1, pubV_mono h x.2⟩) (fun x => ⟨hasV_mono h x.1, pubV_mono h x.2⟩)
    · rename_i e4
      rw [if_neg e4] at hk
      rw [List.all_eq_true] at hk ⊢
      exact fun k hm => hasV_mono h (hk k hm)

/-- A set that nothing leads out of. -/
structure Clo (ts : List Term) (S : List Bool) : Prop where
  len : S.length = ts.length
  made : ∀ i x, ts[i]? = some x → madeV ts S x = true → Kn S i
  opens : ∀ i x, ts[i]? = some x → x.kind = 6 → Kn S i → hasV S (x.keys.getD 0 zk) = true → ∀ k ∈ x.keys.drop 2, nameK (be32 k) = k → be32 k < ts.length → Kn S (be32 k)

section
variable {ts : List Term} {S : List Bool}
theorem learn_in {known : List Bool} (hle : KLe known S) {k : List UInt8} (hk : nameK (be32 k) = k → be32 k < S.length → Kn S (be32 k)) : KLe (learnV known k).2 S := by
  unfold learnV
  split
  · rename_i h
    obtain ⟨h1, h2, _⟩ := h
    refine ⟨by simp [hle.1], fun i hi => ?_⟩
    rcases Kn.set hi with rfl | hi
    · exact hk h1 (by rw [← hle.1]; exact h2)
    · exact hle.2 i hi
  · exact hle
theorem learnL_in : ∀ (ks : List (List UInt8)) {known : List Bool} {more : Bool}, KLe known S → (∀ k ∈ ks, nameK (be32 k) = k → be32 k < S.length → Kn S (be32 k)) → KLe (learnL known more ks).1 S
  | [], _, _, h, _ => h
  | k :: ks, _, _, h, hk => learnL_in ks (learn_in h (hk k (by simp))) (fun u hu => hk u (by simp [hu]))
theorem learnS_in : ∀ (ks : List (List UInt8)) {known : List Bool}, KLe known S → (∀ k ∈ ks, nameK (be32 k) = k → be32 k < S.length → Kn S (be32 k)) → KLe (learnS known ks) S
  | [], _, h, _ => h
  | k :: ks, _, h, hk => learnS_in ks (learn_in h (hk k (by simp))) (fun u hu => hk u (by simp [hu]))
theorem step_in (hc : Clo ts S) {i : Nat} {x : Term} (hx : ts[i]? = some x) {known : List Bool} {more : Bool} (hle : KLe known S) : KLe (stepV ts i known more x).1 S := by
  have h1 : KLe (step1 ts i known more x).1 S := by
    unfold step1
    split
    · rename_i h
      refine ⟨by simp [hle.1], fun j hj => ?_⟩
      rcases Kn.set hj with rfl | hj
      · exact hc.made _ x hx (madeV_mono hle h.2)
      · exact hle.2 j hj
    · exact hle
  unfold stepV step2
  split
  · rename_i h
    obtain ⟨h2, h3, h4⟩ := h
    exact learnL_in _ h1 fun k hk e1 e2 => hc.opens i x hx h3 (h1.2 i h2) (hasV_mono h1 h4) k hk e1 (by rw [← hc.len]; exact e2)
  · exact h1
theorem roundG_in (hc : Clo ts S) : ∀ (xs : List Term) (i : Nat) (known : List Bool) (more : Bool), (∀ j x, xs[j]? = some x → ts[i + j]? = some x) → KLe known S → KLe (roundG ts xs i known more).1 S
  | [], _, _, _, _, h => h
  | x :: xs, i, known, more, hx, h => by
    rw [roundG]
    exact roundG_in hc xs (i + 1) _ _ (fun j y hy => by rw [show i + 1 + j = i + (j + 1) by omega]; exact hx (j + 1) y (by simpa using hy)) (step_in hc (by simpa using hx 0 x rfl) h)
theorem Rounds.in (hc : Clo ts S) {a b : List Bool} (h : Rounds ts a b) (ha : KLe a S) : KLe b S := by
  induction h with
  | refl => exact ha
  | step k' _ ih => exact roundG_in hc ts 0 _ _ (fun j x h => by simpa using h) ih
/-- NO MORE FOLLOWS than a closed set has. -/
theorem FolOk.in {seen : List (List UInt8)} {K : List Bool} (h : FolOk ts seen K) (hc : Clo ts S) (hs : ∀ k ∈ seen, nameK (be32 k) = k → be32 k < ts.length → Kn S (be32 k)) : KLe K S := by
  refine h.of.in hc (learnS_in seen ⟨by rw [List.length_replicate, hc.len], fun i hi => ?_⟩ (fun k hk e1 e2 => hs k hk e1 (by rw [← hc.len]; exact e2)))
  unfold Kn at hi
  rw [List.getD_eq_getElem?_getD, List.getElem?_replicate] at hi
  split at hi <;> simp at hi
end

/-! ### What is known stays so -/
theorem learn_up (known : List Bool) (k : List UInt8) : KLe known (learnV known k).2 := by
  unfold learnV
  split
  · exact ⟨by simp, fun i h => h.of_set⟩
  · exact KLe.refl _
theorem learnL_up : ∀ (ks : List (List UInt8)) (known : List Bool) (more : Bool), KLe known (learnL known more ks).1
  | [], _, _ => KLe.refl _
  | k :: ks, known, more => (learn_up known k).trans (learnL_up ks _ _)
theorem learnS_up : ∀ (ks : List (List UInt8)) (known : List Bool), KLe known (learnS known ks)
  | [], _ => KLe.refl _
  | k :: ks, known => (learn_up known k).trans (learnS_up ks _)
theorem step_up (ts : List Term) (i : Nat) (known : List Bool) (more : Bool) (x : Term) : KLe known (stepV ts i known more x).1 := by
  have h1 : KLe known (step1 ts i known more x).1 := by
    unfold step1; split
    · exact ⟨by simp, fun i h => h.of_set⟩
    · exact KLe.refl _
  refine h1.trans ?_
  unfold stepV step2
  split
  · exact learnL_up _ _ _
  · exact KLe.refl _
theorem roundG_up (ts : List Term) : ∀ (xs : List Term) (i : Nat) (known : List Bool) (more : Bool), KLe known (roundG ts xs i known more).1
  | [], _, _, _ => KLe.refl _
  | x :: xs, i, known, more => (step_up ts i known more x).trans (roundG_up ts xs _ _ _)
theorem Rounds.up {ts : List Term} {a b : List Bool} (h : Rounds ts a b) : KLe a b := by
  induction h with
  | refl => exact KLe.refl _
  | step k' _ ih => exact ih.trans (roundG_up ts ts 0 _ _)
theorem learn_has {known : List Bool} {k : List UInt8} (h1 : nameK (be32 k) = k) (h2 : be32 k < known.length) : Kn (learnV known k).2 (be32 k) := by
  unfold learnV
  by_cases h : known.getD (be32 k) true = false
  · rw [if_pos ⟨h1, h2, h⟩]; exact Kn.set_self h2
  · rw [if_neg (fun x => h x.2.2)]
    unfold Kn
    rw [List.getD_eq_getElem?_getD, List.getElem?_eq_getElem h2] at h ⊢
    simpa using h
theorem learnS_has (ks : List (List UInt8)) : ∀ {known : List Bool} {k : List UInt8}, k ∈ ks → nameK (be32 k) = k → be32 k < known.length → Kn (learnS known ks) (be32 k) := by
  induction ks with
  | nil => intro _ _ hk; cases hk
  | cons u ks ih =>
    intro known k hk h1 h2
    rw [learnS]
    rcases List.mem_cons.1 hk with e | hk
    · rw [← e]
      exact (learnS_up ks _).2 _ (learn_has h1 h2)
    · exact ih hk h1 (by rw [learnV_len]; exact h2)
/-- What was seen is known. -/
theorem FolOk.seen {ts : List Term} {seen : List (List UInt8)} {K : List Bool} (h : FolOk ts seen K) {k : List UInt8} (hk : k ∈ seen) (h1 : nameK (be32 k) = k) (h2 : be32 k < ts.length) : Kn K (be32 k) :=
  h.of.up.2 _ (learnS_has seen hk h1 (by rw [List.length_replicate]; exact h2))

theorem roundG_end (ts : List Term) : ∀ (xs : List Term) (i : Nat) (K : List Bool), roundG ts xs i K false = (K, false) → ∀ j x, xs[j]? = some x → stepV ts (i + j) K false x = (K, false)
  | [], _, _, _, j, x, hx => by simp at hx
  | y :: xs, i, K, h, j, x, hx => by
    rw [roundG] at h
    have hm := MoreOk.roundG ts xs (i + 1) (stepV ts i K false y).1 (stepV ts i K false y).2
    rw [h] at hm
    obtain ⟨_, _, h3⟩ := hm
    obtain ⟨e1, e2⟩ := h3 rfl
    have hs : stepV ts i K false y = (K, false) := Prod.ext e2.symm e1
    cases j with
    | zero => simp only [List.getElem?_cons_zero, Option.some.injEq] at hx; subst hx; exact hs
    | succ j =>
      rw [hs] at h
      rw [show i + (j + 1) = i + 1 + j by omega]
      exact roundG_end ts xs (i + 1) K h j x (by simpa using hx)
/-- ALL that can be made of it is known. -/
theorem FolOk.clo {ts : List Term} {seen : List (List UInt8)} {K : List Bool} (h : FolOk ts seen K) : Clo ts K := by
  have hstep := fun i x hx => roundG_end ts ts 0 K h.end_ i x hx
  refine ⟨h.len, fun i x hx hm => ?_, fun i x hx h6 hi hh k hk h1 h2 => ?_⟩
  · have := hstep i x hx
    rw [Nat.zero_add] at this
    have m1 := MoreOk.step2 i (step1 ts i K false x).1 (step1 ts i K false x).2 x
    have e : step2 i (step1 ts i K false x).1 (step1 ts i K false x).2 x = (K, false) := this
    rw [e] at m1
    obtain ⟨_, _, m3⟩ := m1
    obtain ⟨e1, e2⟩ := m3 rfl
    have hlt : i < K.length := by rw [h.len]; exact (List.getElem?_eq_some_iff.1 hx).1
    by_cases hk : K.getD i true = false
    · unfold step1 at e1
      rw [if_pos ⟨hk, hm⟩] at e1
      cases e1
    · unfold Kn
      rw [List.getD_eq_getElem?_getD, List.getElem?_eq_getElem hlt] at hk ⊢
      simpa using hk
  · have := hstep i x hx
    rw [Nat.zero_add] at this
    have e : step2 i (step1 ts i K false x).1 (step1 ts i K false x).2 x = (K, false) := this
    have m1 := MoreOk.step2 i (step1 ts i K false x).1 (step1 ts i K false x).2 x
    rw [e] at m1
    obtain ⟨_, _, m3⟩ := m1
    obtain ⟨e1, e2⟩ := m3 rfl
    simp only at e2
    rw [← e2, e1] at e
    unfold step2 at e
    rw [if_pos ⟨hi, h6, hh⟩] at e
    have hL : ∀ (ks : List (List UInt8)) (known : List Bool) (more : Bool), (learnL known more ks).2 = false → ∀ k ∈ ks, nameK (be32 k) = k → be32 k < known.length → Kn known (be32 k) := by
      intro ks
      induction ks with
      | nil => intro _ _ _ k hk; cases hk
      | cons u ks ih =>
        intro known more hf k hk h1 h2
        rw [learnL] at hf
        have ml := MoreOk.learnL ks (learnV known u).2 ((learnV known u).1 || more)
        obtain ⟨_, _, m3⟩ := ml
        obtain ⟨a, _⟩ := m3 hf
        have hu : (learnV known u).2 = known := (learnV_cnt known u).2 (by simp at a; exact a.1)
        rcases List.mem_cons.1 hk with rfl | hk
        · have := learn_has h1 h2; rwa [hu] at this
        · have := ih _ _ hf k hk h1 (by rw [hu]; exact h2); rwa [hu] at this
    exact hL _ K false (by rw [e]) k hk h1 (by rw [h.len]; exact h2)

/-! ### Sets of terms -/
/-- Those terms for which something holds. -/
noncomputable def setOf (ts : List Term) (Q : Term → Prop) : List Bool := ts.map fun x => decide (Q x)
theorem setOf_len (ts : List Term) (Q : Term → Prop) : (setOf ts Q).length = ts.length := by simp [setOf]
theorem setOf_kn {ts : List Term} {Q : Term → Prop} {i : Nat} {x : Term} (hx : ts[i]? = some x) : Kn (setOf ts Q) i ↔ Q x := by
  unfold Kn setOf
  rw [List.getD_eq_getElem?_getD, List.getElem?_map, hx]
  simp
theorem hasV_nm {ts : List Term} (hts : TsOk ts) {known : List Bool} {x : Term} {k : List UInt8} (h : Nm ts x k) : ∃ n, k = nameK n ∧ In ts x n ∧ nameK (be32 k) = k ∧ be32 k = n ∧ hasV known k = known.getD n false := by
  obtain ⟨n, rfl, hn⟩ := h
  have hl := hts.len
  have hlt := hn.lt
  have e : be32 (nameK n) = n := be32_name (by omega)
  exact ⟨n, rfl, hn, by rw [e], e, by unfold hasV; rw [e, if_pos rfl]⟩
theorem hasV_set {ts : List Term} (hts : TsOk ts) {Q : Term → Prop} {x : Term} (hx : TermOk x) {k : List UInt8} (h : Nm ts x k) : hasV (setOf ts Q) k = true ↔ Q x := by
  obtain ⟨n, rfl, hn, _, _, e⟩ := hasV_nm hts (known := setOf ts Q) h
  rw [e]
  exact setOf_kn (hn.get hts hx)
theorem pubV_set {ts : List Term} (hts : TsOk ts) {Q : Term → Prop} {x : Term} (hx : TermOk x) {k : List UInt8} (h : Nm ts x k) (hq : pubV ts (setOf ts Q) k = true) : Q x ∨ (∃ n, In ts (pubT k) n) ∧ Q (pubT k) := by
  unfold pubV at hq
  simp only [Bool.or_eq_true] at hq
  rcases hq with hq | hq
  · exact .inl ((hasV_set hts hx h).1 hq)
  · refine .inr ?_
    cases hf : findT (shapeT (pubT k)) ts 0 with
    | none => rw [hf] at hq; cases hq
    | some n =>
      rw [hf] at hq
      have hin : In ts (pubT k) n := hf
      exact ⟨⟨n, hin⟩, (setOf_kn (hin.get hts (pubT_ok h.len))).1 hq⟩
end Go.Cab

/- Bundle, plain: what the secret follows of. -/
-- TEXTS
-- KIT
namespace Go.Cab
open Classical

theorem onesG_mem : ∀ (m : Nat) (ts : List Term) (acc : List (List UInt8)) (i : Nat) (y : Term), y ∈ (onesG m ts acc i).2 → y ∈ ts ∨ y.kind = 1
  | 0, _, _, _, _, h => .inl h
  | m + 1, ts, acc, i, y, h => by
    rcases onesG_mem m _ _ _ y h with h | h
    · rcases mem_put h with h | rfl
      · exact .inl h
      · exact .inr rfl
    · exact .inr h
theorem onesG_pre : ∀ (m : Nat) (ts : List Term) (acc : List (List UInt8)) (i : Nat), ts <+: (onesG m ts acc i).2
  | 0, _, _, _ => List.prefix_refl _
  | m + 1, ts, acc, i => (put_pre ts _).trans (onesG_pre m _ _ _)
theorem storeT_nm (ts : List Term) (n : Nat) : Nm (storeT ts n).2 (drawT txId) (storeT ts n).1.id ∧ Nm (storeT ts n).2 (drawT txPre) (storeT ts n).1.pre ∧ ∀ y ∈ (storeT ts n).2, y ∈ ts ∨ y.kind = 1 := by
  refine ⟨((Nm.put ts (drawT txId)).mono (put_pre _ _)).mono (onesG_pre _ _ _ _), (Nm.put _ (drawT txPre)).mono (onesG_pre _ _ _ _), fun y hy => ?_⟩
  rcases onesG_mem n _ _ _ y hy with h | h
  · rcases mem_put h with h | rfl
    · rcases mem_put h with h | rfl
      · exact .inl h
      · exact .inr rfl
    · exact .inr rfl
  · exact .inr h
theorem pubsG_mem : ∀ (xs : List (List UInt8)) (ts : List Term) (acc : List (List UInt8)) (y : Term), y ∈ (pubsG xs ts acc).2 → y ∈ ts ∨ ∃ k ∈ xs, y = pubT k
  | [], _, _, _, h => .inl h
  | x :: xs, ts, acc, y, h => by
    rcases pubsG_mem xs _ _ y h with h | ⟨k, hk, e⟩
    · rcases mem_put h with h | h
      · exact .inl h
      · exact .inr ⟨x, by simp, h⟩
    · exact .inr ⟨k, by simp [hk], e⟩
theorem showT_mem {ts : List Term} {s : Store} {y : Term} (h : y ∈ (showT ts s).2) : y ∈ ts ∨ ∃ k, y = pubT k := by
  rcases pubsG_mem _ _ _ y h with h | ⟨k, _, e⟩
  · rcases mem_put h with h | h
    · rcases mem_put h with h | h
      · exact .inl h
      · exact .inr ⟨_, h⟩
    · exact .inr ⟨_, h⟩
  · exact .inr ⟨k, e⟩

/-- A key that was drawn. -/
structure Dr (ts : List Term) (k : List UInt8) (s : List UInt8) : Prop where
  nm : Nm ts (drawT s) k
  len : s.length < 1000
theorem Dr.mono {ts us : List Term} {k s : List UInt8} (h : Dr ts k s) (p : ts <+: us) : Dr us k s := ⟨h.nm.mono p, h.len⟩
theorem Dr.ok {ts : List Term} {k s : List UInt8} (h : Dr ts k s) : TermOk (drawT s) := drawT_ok h.len
theorem Dr.ne {ts : List Term} (hts : TsOk ts) {k k' s s' : List UInt8} (h : Dr ts k s) (g : Dr ts k' s') (hs : s ≠ s') : k ≠ k' := fun e => by
  subst e
  have := h.nm.inj g.nm hts h.ok g.ok
  simp only [drawT, Term.mk.injEq, and_true, true_and] at this
  exact hs this
theorem agr_inj {a k c d : List UInt8} (h : agr a k = agr c d) : (a = c ∧ k = d) ∨ (a = d ∧ k = c) := by
  unfold agr at h
  split at h <;> split at h <;> simp only [Term.mk.injEq, List.cons.injEq, and_true, true_and] at h <;> obtain ⟨rfl, rfl⟩ := h <;> simp
theorem agr_keys (a k : List UInt8) : (agr a k).keys = [k, a] ∨ (agr a k).keys = [a, k] := by unfold agr; split <;> simp
/-- Whether it can be agreed on. -/
theorem made_agr {ts : List Term} {S : List Bool} {a k : List UInt8} : madeV ts S (agr a k) = true ↔ (hasV S a = true ∧ pubV ts S k = true) ∨ (hasV S k = true ∧ pubV ts S a = true) := by
  unfold madeV
  rw [agr_kind]
  simp only [show ¬ (4 : Nat) = 1 by decide, if_false, if_true, Bool.or_eq_true, Bool.and_eq_true]
  rcases agr_keys a k with h | h <;> rw [h] <;> simp only [List.getD_cons_zero, List.getD_cons_succ]
  exact Or.comm
theorem NmL.get {ts : List Term} : ∀ {xs : List Term} {ks : List (List UInt8)}, NmL ts xs ks → ∀ x ∈ xs, ∃ k ∈ ks, Nm ts x k
  | [], [], _, x, hx => by cases hx
  | y :: xs, k :: ks, ⟨h, g⟩, x, hx => by
    rcases List.mem_cons.1 hx with rfl | hx
    · exact ⟨k, by simp, h⟩
    · obtain ⟨k', h1, h2⟩ := g.get x hx
      exact ⟨k', by simp [h1], h2⟩
  | [], _ :: _, h, _, _ => h.elim
  | _ :: _, [], h, _, _ => h.elim
theorem NmL.get' {ts : List Term} : ∀ {xs : List Term} {ks : List (List UInt8)}, NmL ts xs ks → ∀ k ∈ ks, ∃ x ∈ xs, Nm ts x k
  | [], [], _, x, hx => by cases hx
  | y :: xs, k :: ks, ⟨h, g⟩, x, hx => by
    rcases List.mem_cons.1 hx with rfl | hx
    · exact ⟨y, by simp, h⟩
    · obtain ⟨k', h1, h2⟩ := g.get' x hx
      exact ⟨k', by simp [h1], h2⟩
  | [], _ :: _, h, _, _ => h.elim
  | _ :: _, [], h, _, _ => h.elim
theorem made_hash {ts : List Term} {S : List Bool} {s : List UInt8} {hs : List (List UInt8)} : madeV ts S ⟨2, s, hs⟩ = true ↔ ∀ k ∈ hs, hasV S k = true := by
  unfold madeV
  simp only [show ¬ (2 : Nat) = 1 by decide, show ¬ (2 : Nat) = 4 by decide, if_false]
  exact List.all_eq_true
theorem zk_no : nameK (be32 zk) ≠ zk := name_nz _
/-- What is seen, of a name. -/
theorem seen_nm {ts : List Term} (hts : TsOk ts) {Q : Term → Prop} {x : Term} {k : List UInt8} (hx : TermOk x) (h : Nm ts x k) (hq : Q x) : nameK (be32 k) = k → be32 k < ts.length → Kn (setOf ts Q) (be32 k) := fun _ _ => by
  obtain ⟨n, rfl, hn⟩ := h
  have hl := hts.len
  have hlt := hn.lt
  rw [be32_name (by omega)]
  exact (setOf_kn (hn.get hts hx)).2 hq
theorem seen_zk {ts : List Term} {S : List Bool} : nameK (be32 zk) = zk → be32 zk < ts.length → Kn S (be32 zk) := fun h => absurd h zk_no

/-- All that there is, behind a greeting. -/
structure Bund (ts : List Term) (s b : Store) (ka kb : List UInt8) (h : Hello) (sec : List UInt8) (hs : List (List UInt8)) : Prop where
  tok : TsOk ts
  sh : Sh ts s b
  id : Dr ts s.id txId
  pre : Dr ts s.pre txPre
  ones : ∀ o ∈ s.ones, ∃ j, j < 10 ∧ Dr ts o (txOne ++ digs j)
  dA : Dr ts ka [97]
  dB : Dr ts kb [98]
  ha : Nm ts (pubT ka) h.id
  hb : Nm ts (pubT kb) h.eph
  one : h.one = b.ones.headD zk
  hl : NmL ts ((qsOf ka kb s).map fun q => agr q.1 q.2) hs
  sn : Nm ts ⟨2, hello, hs⟩ sec
  all : ∀ y ∈ ts, y.kind = 1 ∨ (∃ k, y = pubT k) ∨ (∃ q ∈ qsOf ka kb s, y = agr q.1 q.2) ∨ y = ⟨2, hello, hs⟩

section
variable {ts : List Term} {s b : Store} {ka kb : List UInt8} {h : Hello} {sec : List UInt8} {hs : List (List UInt8)}
theorem Bund.secOk (B : Bund ts s b ka kb h sec hs) : TermOk ⟨2, hello, hs⟩ := by
  obtain ⟨n, _, hn⟩ := B.sn
  obtain ⟨y, h1, h2⟩ := findT_get hn
  have hy := B.tok.ok y (List.mem_of_getElem? h1)
  have hk : y.kind = 2 := by
    have e := congrArg (fun l => l.getD 0 0) h2
    simp only [shapeT] at e
    have : (UInt8.ofNat 2).toNat = (UInt8.ofNat y.kind).toNat := by simpa using congrArg UInt8.toNat e
    rw [ofNat_mod, ofNat_mod] at this
    have := hy.kind
    omega
  rcases B.all y (List.mem_of_getElem? h1) with h | ⟨k, h⟩ | ⟨q, _, h⟩ | h
  · omega
  · rw [h] at hk; cases hk
  · rw [h, agr_kind] at hk; cases hk
  · rw [← h]; exact hy
/-- The pairs' secrets were drawn. -/
theorem Bund.pair (B : Bund ts s b ka kb h sec hs) {q : KK} (hq : q ∈ qsOf ka kb s) : (∃ t, Dr ts q.1 t) ∧ ∃ t, Dr ts q.2 t := by
  simp only [qsOf, List.cons_append, List.nil_append, List.mem_cons, List.mem_map] at hq
  rcases hq with rfl | rfl | rfl | ⟨o, ho, rfl⟩
  · exact ⟨⟨_, B.dA⟩, ⟨_, B.pre⟩⟩
  · exact ⟨⟨_, B.dB⟩, ⟨_, B.id⟩⟩
  · exact ⟨⟨_, B.dB⟩, ⟨_, B.pre⟩⟩
  · obtain ⟨j, _, h⟩ := B.ones o (List.mem_of_mem_take ho)
    exact ⟨⟨_, B.dB⟩, ⟨_, h⟩⟩
theorem Bund.agrOk (B : Bund ts s b ka kb h sec hs) {q : KK} (hq : q ∈ qsOf ka kb s) : TermOk (agr q.1 q.2) := by
  obtain ⟨⟨_, h1⟩, ⟨_, h2⟩⟩ := B.pair hq
  exact agr_ok h1.nm.len h2.nm.len
theorem Bund.no6 (B : Bund ts s b ka kb h sec hs) {y : Term} (hy : y ∈ ts) : y.kind ≠ 6 := by
  rcases B.all y hy with h | ⟨k, rfl⟩ | ⟨q, _, rfl⟩ | rfl
  · omega
  · simp [pubT]
  · rw [agr_kind]; decide
  · simp
theorem Bund.clo (B : Bund ts s b ka kb h sec hs) {Q : Term → Prop} (hp : ∀ k, Q (pubT k)) (ha : ∀ q ∈ qsOf ka kb s, madeV ts (setOf ts Q) (agr q.1 q.2) = true → Q (agr q.1 q.2)) (hh : (∀ k ∈ hs, hasV (setOf ts Q) k = true) → Q ⟨2, hello, hs⟩) : Clo ts (setOf ts Q) := by
  refine ⟨setOf_len _ _, fun i y hy hm => ?_, fun i y hy h6 => absurd h6 (B.no6 (List.mem_of_getElem? hy))⟩
  rw [setOf_kn hy]
  rcases B.all y (List.mem_of_getElem? hy) with h | ⟨k, rfl⟩ | ⟨q, hq, rfl⟩ | rfl
  · unfold madeV at hm; rw [if_pos h] at hm; cases hm
  · exact hp k
  · exact ha q hq hm
  · exact hh (made_hash.1 hm)
theorem ShL.pubs {xs ys : List (List UInt8)} (h : ShL ts xs ys) : ∀ y ∈ ys, ∃ x, x.length = 32 ∧ Nm ts (pubT x) y := by
  induction xs generalizing ys with
  | nil =>
    cases ys with
    | nil => intro y hy; cases hy
    | cons y ys => exact h.elim
  | cons x xs ih =>
    cases ys with
    | nil => exact h.elim
    | cons y ys =>
      obtain ⟨h1, h2, h3⟩ := h
      intro z hz
      rcases List.mem_cons.1 hz with rfl | hz
      · exact ⟨x, h1, h2⟩
      · exact ih h3 z hz
def seen1 (b : Store) (h : Hello) : List (List UInt8) := [b.id, b.pre, h.id, h.eph, h.one] ++ b.ones
theorem Bund.seen1 (B : Bund ts s b ka kb h sec hs) {k : List UInt8} (hk : k ∈ seen1 b h) : k = zk ∨ ∃ x, x.length = 32 ∧ Nm ts (pubT x) k := by
  have hones := B.sh.ones.pubs
  simp only [Cab.seen1, List.cons_append, List.nil_append, List.mem_cons] at hk
  rcases hk with rfl | rfl | rfl | rfl | rfl | hk
  · exact .inr ⟨_, B.sh.ok.id, B.sh.id⟩
  · exact .inr ⟨_, B.sh.ok.pre, B.sh.pre⟩
  · exact .inr ⟨_, B.dA.nm.len, B.ha⟩
  · exact .inr ⟨_, B.dB.nm.len, B.hb⟩
  · rw [B.one]
    cases hb : b.ones with
    | nil => exact .inl rfl
    | cons o os => exact .inr (hones o (by rw [hb]; simp))
  · exact .inr (hones k hk)

/-- OF BUNDLE AND GREETING it doesn't follow. -/
theorem Bund.hides (B : Bund ts s b ka kb h sec hs) {K : List Bool} (hK : FolOk ts (Cab.seen1 b h) K) : hasV K sec = false := by
  have hts := B.tok
  let Q : Term → Prop := fun y => ∃ k, y = pubT k
  have hdr : ∀ {k t : List UInt8}, Dr ts k t → hasV (setOf ts Q) k = false := fun {k t} hd => by
    rw [Bool.eq_false_iff]
    intro e
    obtain ⟨k', e⟩ := (hasV_set hts hd.ok hd.nm).1 e
    simp [drawT, pubT] at e
  have hc : Clo ts (setOf ts Q) := B.clo (fun k => ⟨k, rfl⟩) (fun q hq hm => by
    obtain ⟨⟨_, h1⟩, ⟨_, h2⟩⟩ := B.pair hq
    rcases made_agr.1 hm with ⟨h, _⟩ | ⟨h, _⟩
    · rw [hdr h1] at h; cases h
    · rw [hdr h2] at h; cases h) (fun hall => by
    obtain ⟨k, hk, hn⟩ := B.hl.get (agr ka s.pre) (by simp [qsOf])
    have hq : (ka, s.pre) ∈ qsOf ka kb s := by simp [qsOf]
    obtain ⟨k', e⟩ := (hasV_set hts (B.agrOk hq) hn).1 (hall k hk)
    have := congrArg Term.kind e
    rw [agr_kind] at this
    cases this)
  have hle := hK.in hc (fun k hk => by
    rcases B.seen1 hk with rfl | ⟨x, hx, hn⟩
    · exact seen_zk
    · exact seen_nm hts (pubT_ok hx) hn ⟨x, rfl⟩)
  rw [Bool.eq_false_iff]
  intro e
  obtain ⟨k', e⟩ := (hasV_set hts B.secOk B.sn).1 (hasV_mono hle e)
  simp [pubT] at e

def seen2 (b : Store) (h : Hello) (s : Store) : List (List UInt8) := Cab.seen1 b h ++ [s.id, s.pre] ++ s.ones.drop 1
/-- NOR OF ALL THAT THE STORE STILL HAS, if one that is used once was used. -/
theorem Bund.hides2 (B : Bund ts s b ka kb h sec hs) {K : List Bool} (hK : FolOk ts (seen2 b h s) K) (hne : s.ones ≠ []) : hasV K sec = false := by
  have hts := B.tok
  obtain ⟨o, os, ho⟩ : ∃ o os, s.ones = o :: os := by
    cases hso : s.ones with
    | nil => exact absurd hso hne
    | cons o os => exact ⟨o, os, rfl⟩
  obtain ⟨jo, hjo, dro⟩ := B.ones o (by rw [ho]; simp)
  have hnd := B.sh.nd
  rw [ho] at hnd
  have hoos := (List.nodup_cons.1 hnd).1
  let W : List (List UInt8) := [s.id, s.pre] ++ os
  let P3 : List KK := [(ka, s.pre), (kb, s.id), (kb, s.pre)]
  let Q : Term → Prop := fun y => (∃ k, y = pubT k) ∨ (y.kind = 1 ∧ ∃ k ∈ W, Nm ts y k) ∨ ∃ q ∈ P3, y = agr q.1 q.2
  have hP3 : ∀ q ∈ P3, q ∈ qsOf ka kb s := fun q hq => by simp only [qsOf]; exact List.mem_append_left _ hq
  have hqs : ∀ q ∈ qsOf ka kb s, q ∈ P3 ∨ q = (kb, o) := fun q hq => by
    simp only [qsOf, ho, List.take_succ_cons, List.take_zero, List.map_cons, List.map_nil] at hq
    rcases List.mem_append.1 hq with h | h
    · exact .inl h
    · simp at h; exact .inr h
  -- keys that are drawn
  have hdr : ∀ {k t : List UInt8}, Dr ts k t → hasV (setOf ts Q) k = true → k ∈ W := fun {k t} hd e => by
    rcases (hasV_set hts hd.ok hd.nm).1 e with ⟨k', e⟩ | ⟨_, k', hk', hn⟩ | ⟨q, hq, e⟩
    · simp [drawT, pubT] at e
    · rw [hd.nm.fun hn]; exact hk'
    · have := congrArg Term.kind e
      rw [agr_kind] at this
      cases this
  have n1 : ([97] : List UInt8) ≠ txId := by decide
  have hkbW : kb ∉ W := fun hm => by
    simp only [W, List.cons_append, List.nil_append, List.mem_cons] at hm
    rcases hm with h | h | h
    · exact B.dB.ne hts B.id (by decide) h
    · exact B.dB.ne hts B.pre (by decide) h
    · obtain ⟨j, hj, d⟩ := B.ones kb (by rw [ho]; simp [h])
      exact B.dB.ne hts d (fun e => by have := congrArg List.length e; simp [txOne] at this) rfl
  have hoW : o ∉ W := fun hm => by
    simp only [W, List.cons_append, List.nil_append, List.mem_cons] at hm
    rcases hm with h | h | h
    · exact dro.ne hts B.id (fun e => by have := congrArg List.length e; rw [List.length_append, dig1 hjo] at this; simp [txOne, txId] at this) h
    · exact dro.ne hts B.pre (fun e => by have := congrArg List.length e; rw [List.length_append, dig1 hjo] at this; simp [txOne, txPre] at this) h
    · exact hoos h
  have hbo : (kb, o) ∈ qsOf ka kb s := by simp [qsOf, ho]
  have hnew : ¬ Q (agr kb o) := by
    rintro (⟨k, e⟩ | ⟨e, _⟩ | ⟨q, hq, e⟩)
    · have := congrArg Term.kind e
      rw [agr_kind] at this
      cases this
    · rw [agr_kind] at e; cases e
    · have ho3 : o = s.id ∨ o = s.pre → False := fun h => hoW (by rcases h with h | h <;> simp [W, h])
      have hb3 : kb = s.id ∨ kb = s.pre → False := fun h => hkbW (by rcases h with h | h <;> simp [W, h])
      simp only [P3, List.mem_cons, List.not_mem_nil, or_false] at hq
      rcases hq with rfl | rfl | rfl <;> rcases agr_inj e with ⟨e1, e2⟩ | ⟨e1, e2⟩ <;> simp only at e1 e2
      · exact ho3 (.inr e2)
      · exact hb3 (.inr e1)
      · exact ho3 (.inl e2)
      · exact hb3 (.inl e1)
      · exact ho3 (.inr e2)
      · exact hb3 (.inr e1)
  have hc : Clo ts (setOf ts Q) := B.clo (fun k => .inl ⟨k, rfl⟩) (fun q hq hm => by
    rcases hqs q hq with h3 | rfl
    · exact .inr (.inr ⟨q, h3, rfl⟩)
    · rcases made_agr.1 hm with ⟨h, _⟩ | ⟨h, _⟩
      · exact absurd (hdr B.dB h) hkbW
      · exact absurd (hdr dro h) hoW) (fun hall => by
    obtain ⟨k, hk, hn⟩ := B.hl.get (agr kb o) (List.mem_map.2 ⟨(kb, o), hbo, rfl⟩)
    exact absurd ((hasV_set hts (B.agrOk hbo) hn).1 (hall k hk)) hnew)
  have hW : ∀ k ∈ W, ∃ t, Dr ts k t := fun k hk => by
    simp only [W, List.cons_append, List.nil_append, List.mem_cons] at hk
    rcases hk with rfl | rfl | h
    · exact ⟨_, B.id⟩
    · exact ⟨_, B.pre⟩
    · obtain ⟨j, _, d⟩ := B.ones k (by rw [ho]; simp [h])
      exact ⟨_, d⟩
  have hle := hK.in hc (fun k hk => by
    simp only [seen2, ho, List.drop_succ_cons, List.drop_zero, List.append_assoc] at hk
    rcases List.mem_append.1 hk with hk | hk
    · rcases B.seen1 hk with rfl | ⟨x, hx, hn⟩
      · exact seen_zk
      · exact seen_nm hts (pubT_ok hx) hn (.inl ⟨x, rfl⟩)
    · obtain ⟨t, d⟩ := hW k hk
      exact seen_nm hts d.ok d.nm (.inr (.inl ⟨rfl, k, hk, d.nm⟩)))
  rw [Bool.eq_false_iff]
  intro e
  rcases (hasV_set hts B.secOk B.sn).1 (hasV_mono hle e) with ⟨k', e⟩ | ⟨e, _⟩ | ⟨q, hq, e⟩
  · simp [pubT] at e
  · cases e
  · have := congrArg Term.kind e
    rw [agr_kind] at this
    cases this
/-- IF NONE IS USED ONCE, it does. -/
theorem Bund.shows (B : Bund ts s b ka kb h sec hs) {K : List Bool} (hK : FolOk ts (seen2 b h s) K) (he : s.ones = []) : hasV K sec = true := by
  have hts := B.tok
  have hc := hK.clo
  have hin : ∀ {x : Term} {k : List UInt8}, Nm ts x k → k ∈ seen2 b h s → hasV K k = true := fun {x k} hn hk => by
    obtain ⟨n, e0, hi, e1, e2, e3⟩ := hasV_nm hts (known := K) hn
    rw [e3, ← e2]
    exact hK.seen hk e1 (by rw [e2]; exact hi.lt)
  have hpub : ∀ {x p : List UInt8}, Nm ts (pubT x) p → p ∈ seen2 b h s → pubV ts K x = true := fun {x p} hn hp => by
    obtain ⟨n, e0, hi, e1, e2, e3⟩ := hasV_nm hts (known := K) hn
    unfold pubV
    have hf : findT (shapeT (pubT x)) ts 0 = some n := hi
    rw [hf]
    simp only [Bool.or_eq_true]
    refine .inr ?_
    rw [← e2]
    exact hK.seen hp e1 (by rw [e2]; exact hi.lt)
  have hid := hin B.id.nm (by simp [seen2])
  have hpre := hin B.pre.nm (by simp [seen2])
  have hpa := hpub B.ha (by simp [seen2, Cab.seen1])
  have hpb := hpub B.hb (by simp [seen2, Cab.seen1])
  have hqs : qsOf ka kb s = [(ka, s.pre), (kb, s.id), (kb, s.pre)] := by simp [qsOf, he]
  have hmade : ∀ q ∈ qsOf ka kb s, madeV ts K (agr q.1 q.2) = true := fun q hq => by
    rw [hqs] at hq
    simp only [List.mem_cons, List.not_mem_nil, or_false] at hq
    rcases hq with rfl | rfl | rfl
    · exact made_agr.2 (.inr ⟨hpre, hpa⟩)
    · exact made_agr.2 (.inr ⟨hid, hpb⟩)
    · exact made_agr.2 (.inr ⟨hpre, hpb⟩)
  have hkn : ∀ {x : Term} {k : List UInt8}, TermOk x → Nm ts x k → madeV ts K x = true → hasV K k = true := fun {x k} hx hn hm => by
    obtain ⟨n, e0, hi, e1, e2, e3⟩ := hasV_nm hts (known := K) hn
    rw [e3]
    exact hc.made n x (hi.get hts hx) hm
  refine hkn B.secOk B.sn (made_hash.2 fun k hk => ?_)
  obtain ⟨x, hx, hn⟩ := B.hl.get' k hk
  obtain ⟨q, hq, rfl⟩ := List.mem_map.1 hx
  exact hkn (B.agrOk hq) hn (hmade q hq)
end
end Go.Cab

/- Bundle's laws: alive. -/
-- TEXTS
-- KIT
namespace Go.Cab
open Classical
def fb410 : AC := (.seq (.reg [⟨(.some 0), .none, (.mov (.const (.bool .false))), [], .none⟩]) (.seq (.reg [⟨(.some 10), .none, (.xc (.dir 6) [] [] []), [], .none⟩, ⟨(.some 1), .none, (.alloc 1 (.st [1] [(.lit (.pointer .none))])), [], .none⟩, ⟨.none, .none, (.store 1 (.tmp 1) (.tmp 10)), [], .none⟩]) (.seq (.reg [⟨(.some 11), .none, (.load .true 1 (.tmp 1)), [], .none⟩, ⟨(.some 12), .none, (.rdp (.mkifc 25) [(.tmp 11)]), [], .none⟩, ⟨(.some 13), .none, (.xc (.dir 7) [(.tmp 12), (.const (jn 2))] [] []), [], .none⟩, ⟨(.some 2), .none, (.alloc 65 (.st [32, 32, 1] [(.arr 1 (List.replicate 32 (.lit (bn 0)))), (.arr 1 (List.replicate 32 (.lit (bn 0)))), (.lit (.slice .none 0 0))])), [], .none⟩, ⟨.none, .none, (.store 65 (.tmp 2) (.tmp 13)), [], .none⟩]) (.seq (.reg [⟨(.some 15), .none, (.load .true 1 (.tmp 1)), [3, 4, 5], (.some 1)⟩, ⟨(.some 16), .none, (.rdp (.mkifc 25) [(.tmp 15)]), [], .none⟩, ⟨(.some 17), .none, (.faddr 0 0 (.tmp 1)), [], .none⟩, ⟨(.some 18), .none, (.load .false 1 (.tmp 17)), [3, 4, 5], (.some 1)⟩, ⟨(.some 19), .none, (.xc (.dir 11) [(.tmp 18), (.const (tx [97]))] [1, 1, 1, 2] [3, 4, 5]), [], .none⟩, ⟨(.some 20), .none, (.faddr 0 0 (.tmp 1)), [], .none⟩, ⟨(.some 21), .none, (.load .false 1 (.tmp 20)), [3, 4, 5], (.some 1)⟩, ⟨(.some 22), .none, (.xc (.dir 11) [(.tmp 21), (.const (tx [98]))] [1, 1, 2] [3, 4, 5]), [], .none⟩, ⟨(.some 23), .none, (.load .true 1 (.tmp 1)), [3, 4, 5], (.some 1)⟩, ⟨(.some 24), .none, (.rdp (.mkifc 25) [(.tmp 23)]), [], .none⟩, ⟨(.some 25), .none, (.load .true 65 (.tmp 2)), [3, 4, 5], (.some 2)⟩, ⟨(.some 26), .none, (.xc (.dir 8) [(.tmp 24), (.tmp 25)] [1] [3, 4, 5]), [], .none⟩, ⟨(.some 27), .none, (.xc (.dir 10) [(.tmp 16), (.tmp 19), (.tmp 22), (.tmp 26)] [] [3, 4, 5]), [], .none⟩, ⟨(.some 14), .none, (.mov (.tmp 27)), [], .none⟩, ⟨(.some 28), .none, (.ext (.tmp 14) 0), [], .none⟩, ⟨(.some 29), .none, (.ext (.tmp 14) 1), [], .none⟩, ⟨(.some 30), .none, (.ext (.tmp 14) 2), [], .none⟩, ⟨(.some 31), .none, (.ext (.tmp 14) 3), [], .none⟩, ⟨(.some 3), .none, (.alloc 96 (.st [32, 32, 32] [(.arr 1 (List.replicate 32 (.lit (bn 0)))), (.arr 1 (List.replicate 32 (.lit (bn 0)))), (.arr 1 (List.replicate 32 (.lit (bn 0))))])), [], .none⟩, ⟨(.some 4), .none, (.alloc 32 (.arr 1 (List.replicate 32 (.lit (bn 0))))), [], .none⟩, ⟨(.some 5), .none, (.alloc 65 (.st [32, 32, 1] [(.arr 1 (List.replicate 32 (.lit (bn 0)))), (.arr 1 (List.replicate 32 (.lit (bn 0)))), (.lit (.slice .none 0 0))])), [], .none⟩, ⟨.none, .none, (.store 96 (.tmp 3) (.tmp 28)), [], .none⟩, ⟨.none, .none, (.store 32 (.tmp 4) (.tmp 29)), [], .none⟩, ⟨.none, .none, (.store 65 (.tmp 5) (.tmp 30)), [], .none⟩, ⟨(.some 6), .none, (.mov (.tmp 31)), [], .none⟩]) (.seq (.reg [⟨(.some 33), .none, (.load .true 1 (.tmp 1)), [], .none⟩, ⟨(.some 34), .none, (.rdp (.mkifc 25) [(.tmp 33)]), [], .none⟩, ⟨(.some 35), .none, (.load .true 65 (.tmp 2)), [], .none⟩, ⟨(.some 36), .none, (.load .true 96 (.tmp 3)), [], .none⟩, ⟨(.some 37), .none, (.xc (.dir 12) [(.tmp 34), (.tmp 35), (.tmp 36)] [] []), [], .none⟩, ⟨(.some 32), .none, (.mov (.tmp 37)), [], .none⟩, ⟨(.some 38), .none, (.ext (.tmp 32) 0), [], .none⟩, ⟨(.some 39), .none, (.ext (.tmp 32) 1), [], .none⟩, ⟨(.some 40), .none, (.ext (.tmp 32) 2), [], .none⟩, ⟨(.some 7), .none, (.alloc 65 (.st [32, 32, 1] [(.arr 1 (List.replicate 32 (.lit (bn 0)))), (.arr 1 (List.replicate 32 (.lit (bn 0)))), (.lit (.slice .none 0 0))])), [], .none⟩, ⟨(.some 8), .none, (.alloc 32 (.arr 1 (List.replicate 32 (.lit (bn 0))))), [], .none⟩, ⟨.none, .none, (.store 65 (.tmp 7) (.tmp 38)), [], .none⟩, ⟨.none, .none, (.store 32 (.tmp 8) (.tmp 39)), [], .none⟩, ⟨(.some 9), .none, (.mov (.tmp 40)), [], .none⟩]) (.seq (.reg [⟨(.some 41), .none, (.mov (.tmp 6)), [], .none⟩, ⟨(.some 42), .none, (.bin .eql (.tmp 41) (.const (jn 0))), [], .none⟩, ⟨(.some 43), .none, (.mov (.tmp 42)), [], .none⟩, ⟨(.some 44), (.some (43, .true)), (.mov (.tmp 9)), [], .none⟩, ⟨(.some 45), (.some (43, .true)), (.bin .eql (.tmp 44) (.const (jn 0))), [], .none⟩, ⟨(.some 46), .none, (.pick (.tmp 43) (.tmp 45) (.const (.bool .false))), [], .none⟩, ⟨(.some 47), .none, (.mov (.tmp 46)), [], .none⟩, ⟨(.some 48), (.some (47, .true)), (.load .true 32 (.tmp 4)), [], .none⟩, ⟨(.some 49), (.some (47, .true)), (.load .true 32 (.tmp 8)), [], .none⟩, ⟨(.some 50), (.some (47, .true)), (.eqv 28 .false (.tmp 48) (.tmp 49)), [], .none⟩, ⟨(.some 51), .none, (.pick (.tmp 47) (.tmp 50) (.const (.bool .false))), [], .none⟩, ⟨(.some 52), .none, (.mov (.tmp 51)), [], .none⟩, ⟨(.some 53), (.some (52, .true)), (.load .true 32 (.tmp 4)), [], .none⟩, ⟨(.some 54), (.some (52, .true)), (.build (.arr 1 (List.replicate 32 (.lit (bn 0)))) []), [], .none⟩, ⟨(.some 55), (.some (52, .true)), (.eqv 28 .true (.tmp 53) (.tmp 54)), [], .none⟩, ⟨(.some 56), .none, (.pick (.tmp 52) (.tmp 55) (.const (.bool .false))), [], .none⟩, ⟨(.some 57), .none, (.mov (.tmp 56)), [], .none⟩, ⟨(.some 58), (.some (57, .true)), (.faddr 64 2 (.tmp 5)), [], .none⟩, ⟨(.some 59), (.some (57, .true)), (.load .false 1 (.tmp 58)), [], .none⟩, ⟨(.some 60), (.some (57, .true)), (.len .false (.tmp 59)), [], .none⟩, ⟨(.some 61), (.some (57, .true)), (.bin .eql (.tmp 60) (.const (jn 1))), [], .none⟩, ⟨(.some 62), .none, (.pick (.tmp 57) (.tmp 61) (.const (.bool .false))), [], .none⟩, ⟨(.some 63), .none, (.mov (.tmp 62)), [], .none⟩, ⟨(.some 64), (.some (63, .true)), (.faddr 64 2 (.tmp 7)), [], .none⟩, ⟨(.some 65), (.some (63, .true)), (.load .false 1 (.tmp 64)), [], .none⟩, ⟨(.some 66), (.some (63, .true)), (.len .false (.tmp 65)), [], .none⟩, ⟨(.some 67), (.some (63, .true)), (.bin .eql (.tmp 66) (.const (jn 1))), [], .none⟩, ⟨(.some 68), .none, (.pick (.tmp 63) (.tmp 67) (.const (.bool .false))), [], .none⟩, ⟨(.some 69), .none, (.mov (.tmp 68)), [], .none⟩, ⟨(.some 70), (.some (69, .true)), (.faddr 64 2 (.tmp 7)), [], .none⟩, ⟨(.some 71), (.some (69, .true)), (.load .false 1 (.tmp 70)), [], .none⟩, ⟨(.some 72), (.some (69, .true)), (.iaddrS 32 (.tmp 71) (.const (jn 0))), [], .none⟩, ⟨(.some 73), (.some (69, .true)), (.load .true 32 (.tmp 72)), [], .none⟩, ⟨(.some 74), (.some (69, .true)), (.faddr 64 2 (.tmp 2)), [], .none⟩, ⟨(.some 75), (.some (69, .true)), (.load .false 1 (.tmp 74)), [], .none⟩, ⟨(.some 76), (.some (69, .true)), (.iaddrS 32 (.tmp 75) (.const (jn 1))), [], .none⟩, ⟨(.some 77), (.some (69, .true)), (.load .true 32 (.tmp 76)), [], .none⟩, ⟨(.some 78), (.some (69, .true)), (.eqv 28 .false (.tmp 73) (.tmp 77)), [], .none⟩, ⟨(.some 79), .none, (.pick (.tmp 69) (.tmp 78) (.const (.bool .false))), [], .none⟩, ⟨(.some 0), .none, (.mov (.tmp 79)), [], .none⟩]) .ret))))))
def fc410 : FC := ⟨0, 80, [(.tmp 0)], fb410⟩
theorem fc410_eq : compF Go.Proofs.Try.prog 5 = some fc410 := by kernel_rfl

theorem mkifc_free (b : Nat) (l : Nat × Nat) : rdA Go.Proofs.Try.prog (fun _ => none) (.mkifc 25) [freeS b l] = some (freeI b l) := by kernel_rfl
theorem tgt_drawD (b : Nat) (l : Nat × Nat) (x : AV) : tgtA Go.Proofs.Try.prog (.dir 11) [.ptr b l 0 [], x] = some (11, [.ptr b l 0 [], x]) := by kernel_rfl
theorem freeS_sz (b : Nat) (l : Nat × Nat) : (freeS b l).sz = 1 := rfl
theorem freeS_agg (b : Nat) (l : Nat × Nat) : (freeS b l).isAgg = true := rfl
theorem freeS_tup (b : Nat) (l : Nat × Nat) : (freeS b l).isTup = false := rfl

set_option maxHeartbeats 32000000 in
theorem alive_call : PCall Go.Proofs.Try.prog 5 [] (.val (.lit (.bool true))) := by
  have h410 := fc410_eq
  have hc6 : callable Go.Proofs.Try.prog 6 = true := by kernel_rfl
  have hc7 : callable Go.Proofs.Try.prog 7 = true := by kernel_rfl
  have hc8 : callable Go.Proofs.Try.prog 8 = true := by kernel_rfl
  have hc10 : callable Go.Proofs.Try.prog 10 = true := by kernel_rfl
  have hc12 : callable Go.Proofs.Try.prog 12 = true := by kernel_rfl
  refine PCall.of h410 rfl ?_; show AC.wp _ fb410 (AS.init [] 0 80) (fun x s => match x with | .exit _ => False | _ => Fin [(.tmp 0)] s _); unfold fb410 AS.init
  refine wp_sr (by simp [push_cast]; exact rfl) ?_
  refine wp_sgL ?_
  refine areg_run 0 (by simp [push_cast]; exact rfl) ?_
  refine areg_xq (us := []) rfl (by simp only [tgtA, tgtB, Option.bind_some, hc6, if_true]) (newfree_call _) ⟨_, _, (0, 0), 0, rfl, rfl⟩ (fun r hp' _ t' ht' => by cases ht') ?_
  rintro r H' ⟨l, rr, rfl, rfl⟩
  refine areg_run 0 (by simp [push_cast]; exact rfl) ?_
  refine areg_al' rfl fun l1 => areg_end (by simp [push_cast, freeS_sz, freeS_agg, freeS_tup]; exact rfl) ?_
  refine wp_kit (n := 80) (Lo := [none, some (.box l1 1 (freeS 80 l))] ++ List.replicate 78 none) (fun N t => [.lit (.bool false), .ptr (N + 1) l1 0 []] ++ List.replicate 78 .any) (fun N t => [none, some (.box l1 1 (freeS t.b t.l))] ++ List.replicate 78 none) rfl ?_ ?_ fun N H t V hh hN => ?_
  · simp [leA, RelLe.refl', RelLe.ptr']
  · simp [leB, tbNew, BlkLe.freeS']
  have G1 : ∀ V' ts', (tbOf H t V' ts').length = N := fun V' ts' => by rw [tbOf_len, hN]
  have g1 : ∀ V' ts' L k, (tbOf H t V' ts' ++ L)[N + k]? = L[k]? := fun V' ts' L k => cat1 _ _ _ _ (G1 _ _)
  have g2 : ∀ V' ts' L k x, (tbOf H t V' ts' ++ L).set (N + k) x = tbOf H t V' ts' ++ L.set k x := fun V' ts' L k x => cat2 _ _ _ _ _ (G1 _ _)
  -- the store
  obtain ⟨r1, r2, r3, r4, r5, r6⟩ := storeT_ok TsOk.nil (n := 2) (by omega) (by simp)
  have hsk := store_k hh TsOk.nil (n := 2) (by omega) (by simp)
  generalize storeT [] 2 = st at *
  obtain ⟨s, ts1⟩ := st
  obtain ⟨sid, spre, sones⟩ := s
  obtain ⟨s1, s2, s3, s4⟩ := r1
  simp only at r2 r3 r4 r5 r6 s1 s2 s3 s4 hsk
  obtain ⟨o0, o1, rfl⟩ : ∃ o0 o1, sones = [o0, o1] := by
    match sones, r3 with
    | [a, b], _ => exact ⟨a, b, rfl⟩
  refine wp_sg ?_
  refine areg_run 1 (by simp [push_cast, g1, freeS_sz, freeS_agg, freeS_tup]; exact rfl) ?_
  refine areg_rdp (us := [freeS t.b t.l]) rfl (mkifc_free _ _) ?_
  refine areg_run 0 (by simp [push_cast]; exact rfl) ?_
  refine areg_k [freeI t.b t.l, .lit (jn 2)] hN rfl (by simp only [tgtA, tgtB, Option.bind_some, hc7, if_true]) hsk (by simp) (by simp) fun V1 => ?_
  refine areg_al' (z' := zst) (by rw [zst, zk_eq]) fun l2 => areg_end (by simp [push_cast, g1, g2, storeA, zst, zk_len, s1, s2]; exact rfl) ?_
  -- the drawn ones, and what is shown
  have d1 := drawT_ok (s := [97]) (by decide)
  have d2 := drawT_ok (s := [98]) (by decide)
  have l1' := putT_len ts1 (drawT [97])
  have l2' := putT_len (putT ts1 (drawT [97])) (drawT [98])
  have h1 := r4.draw (s := [97]) (by decide) (by simp at r5; omega)
  have h2 := h1.draw (s := [98]) (by decide) (by simp at r5; omega)
  have hdk1 := draw_k hh (ts := ts1) (s := [97]) (by simp at r5; omega) (by decide)
  have hdk2 := draw_k hh (ts := putT ts1 (drawT [97])) (s := [98]) (by simp at r5; omega) (by decide)
  have k1 := nameK_len (putN ts1 (drawT [97]))
  have k2 := nameK_len (putN (putT ts1 (drawT [97])) (drawT [98]))
  have hsok : StoreOk ⟨sid, spre, [o0, o1]⟩ := ⟨s1, s2, s3, s4⟩
  obtain ⟨q1, q2, q3, q4⟩ := showT_ok h2 hsok r2 (by simp at r5; omega)
  have hshk := show_k hh h2 hsok (by simp at r5; omega)
  generalize nameK (putN (putT ts1 (drawT [97])) (drawT [98])) = kb at *
  generalize nameK (putN ts1 (drawT [97])) = ka at *
  generalize putT (putT ts1 (drawT [97])) (drawT [98]) = ts3 at *
  generalize putT ts1 (drawT [97]) = ts2 at *
  generalize showT ts3 ⟨sid, spre, [o0, o1]⟩ = sh at *
  obtain ⟨b, ts4⟩ := sh
  simp only at q1 q2 q3 q4 hshk
  obtain ⟨x, ts5, hm⟩ := meets q2 k1 k2 q1 (by simp at q3 r5; omega)
  have hbk := begin_k hh q2 k1 k2 q1.okb (by simp at q3 r5; omega)
  rw [hm.beg] at hbk
  have hak := answer_k hh hm.ok hsok hm.hok (by have := hm.len; simp at q3 r5; omega)
  rw [hm.ans] at hak
  obtain ⟨xh, xk, xr⟩ := x
  have hx32 := hm.sec
  have hxnz := hm.secnz
  have hxr := hm.rest
  have hb1 := q1.ones.len.1
  obtain ⟨m1, m2, m3⟩ := hm.hok
  simp only at hx32 hxnz hxr hak hbk m1 m2 m3
  obtain ⟨bid, bpre, bones⟩ := b
  obtain ⟨y0, y1, rfl⟩ : ∃ y0 y1, bones = [y0, y1] := by
    match bones, hb1 with
    | [a, b], _ => exact ⟨a, b, rfl⟩
  simp only [List.drop_succ_cons, List.drop_zero] at hxr hak
  have z1 := q1.okb.id
  have z2 := q1.okb.pre
  simp only at z1 z2
  subst hxr
  obtain ⟨xhi, xhe, xho⟩ := xh
  simp only at m1 m2 m3
  refine wp_sg ?_
  refine areg_run 1 (by simp [push_cast, g1, freeS_sz, freeS_agg, freeS_tup]; exact rfl) ?_
  refine areg_rdp (us := [freeS t.b t.l]) rfl (mkifc_free _ _) ?_
  refine areg_run 2 (by simp [push_cast, g1, freeS]; exact rfl) ?_
  refine areg_k [.ptr t.b t.l 0 [], .lit (tx [97])] hN rfl (tgt_drawD _ _ _) hdk1 (by simp) (by simp [AS.ev, AV.place]) fun V2 => ?_
  refine areg_run 2 (by simp [push_cast, g1, freeS]; exact rfl) ?_
  refine areg_k [.ptr t.b t.l 0 [], .lit (tx [98])] hN rfl (tgt_drawD _ _ _) hdk2 (by simp) (by simp [AS.ev, AV.place]) fun V3 => ?_
  refine areg_run 1 (by simp [push_cast, g1, freeS_sz, freeS_agg, freeS_tup]; exact rfl) ?_
  refine areg_rdp (us := [freeS t.b t.l]) rfl (mkifc_free _ _) ?_
  refine areg_run 1 (by simp [push_cast, g1, storeA, s1, s2]; exact rfl) ?_
  refine areg_k [freeI t.b t.l, storeA ⟨sid, spre, [o0, o1]⟩] hN rfl (by simp only [tgtA, tgtB, Option.bind_some, hc8, if_true]) hshk (by simp) (by simp [AS.ev, AV.place]) fun V4 => ?_
  refine areg_run 0 (by simp [push_cast]; exact rfl) ?_
  refine areg_k [freeI t.b t.l, keyA ka, keyA kb, storeA ⟨bid, bpre, [y0, y1]⟩] hN rfl (by simp only [tgtA, tgtB, Option.bind_some, hc10, if_true]) hbk (by simp) (by simp [AS.ev, AV.place]) fun V5 => ?_
  refine areg_run 5 (by simp [push_cast, begunA]; exact rfl) ?_
  refine areg_al' (z' := helloA zhello) (by rw [helloA, zhello, zk_eq]) fun l3 => areg_al' zk_eq.symm fun l4 => areg_al' (z' := zst) (by rw [zst, zk_eq]) fun l5 => areg_end (by simp [push_cast, g1, g2, helloA, storeA, zhello, zst, zk_len, hx32, z1, z2, m1, m2, m3]; exact rfl) ?_
  refine wp_sg ?_
  refine areg_run 1 (by simp [push_cast, g1, freeS_sz, freeS_agg, freeS_tup]; exact rfl) ?_
  refine areg_rdp (us := [freeS t.b t.l]) rfl (mkifc_free _ _) ?_
  refine areg_run 2 (by simp [push_cast, g1, storeA, helloA, s1, s2, m1, m2, m3]; exact rfl) ?_
  refine areg_k [freeI t.b t.l, storeA ⟨sid, spre, [o0, o1]⟩, helloA ⟨xhi, xhe, xho⟩] hN rfl (by simp only [tgtA, tgtB, Option.bind_some, hc12, if_true]) hak (by simp) (by simp [AS.ev, AV.place]) fun V6 => ?_
  refine areg_run 4 (by simp [push_cast, answeredA]; exact rfl) ?_
  refine areg_al' (z' := zst) (by rw [zst, zk_eq]) fun l7 => areg_al' zk_eq.symm fun l8 => areg_end (by simp [push_cast, g1, g2, helloA, storeA, zhello, zst, zk_len, hx32, s1, s2]; exact rfl) ?_
  refine wp_sg ?_
  have e1 := eq_key hx32 hx32
  have e2 := eq_key hx32 zk_len
  have ho1 : o1.length = 32 := s3 o1 (by simp)
  have ho0 : o0.length = 32 := s3 o0 (by simp)
  have e3 := eq_key ho1 ho1
  refine areg_run 9 (by simp [push_cast, g1, hx32]; exact rfl) ?_
  refine areg_g (b := true) (by simp [AS.ev, AS.put]) (areg_eq (by simp [AS.ev, AS.put] <;> exact rfl) (by simp [AS.ev, AS.put] <;> exact rfl) e1 rfl rfl ?_)
  refine areg_run 3 (by simp [push_cast, g1, hx32]; exact rfl) ?_
  refine areg_g (b := true) (by simp [AS.ev, AS.put]) (areg_bz ?_)
  refine areg_g (b := true) (by simp [AS.ev, AS.put]) (areg_eq (by simp [AS.ev, AS.put] <;> exact rfl) (by simp [AS.ev, AS.put] <;> exact rfl) e2 rfl rfl ?_)
  refine areg_run 22 (by simp [push_cast, g1, hxnz, klA, ho0, ho1, s1, s2]; exact rfl) ?_
  refine areg_g (b := true) (by simp [AS.ev, AS.put]) (areg_eq (by simp [AS.ev, AS.put] <;> exact rfl) (by simp [AS.ev, AS.put] <;> exact rfl) e3 rfl rfl ?_)
  refine areg_end (by simp [push_cast]; exact rfl) (wp_ret' ?_)
  exact fin_tmp (by simp [RVal, AS.ev, AS.coe]) (by simp)
end Go.Cab

/- Bundle's laws: BundleMeets walked. -/
-- TEXTS
-- KIT
namespace Go.Cab
open Classical
def fb400 : AC := (.seq (.reg [⟨(.some 4), .none, (.mov (.const (.bool .false))), [], .none⟩]) (.seq (.seq (.reg [⟨(.some 20), .none, (.call 5 []), [], .none⟩, ⟨(.some 21), .none, (.un .not (.tmp 20)), [], .none⟩]) (.cond (.tmp 21) (.seq (.reg [⟨(.some 4), .none, (.mov (.const (.bool .false))), [], .none⟩]) .ret) .skip)) (.seq (.reg [⟨(.some 22), .none, (.xc (.dir 6) [] [] []), [], .none⟩, ⟨(.some 5), .none, (.alloc 1 (.st [1] [(.lit (.pointer .none))])), [], .none⟩, ⟨.none, .none, (.store 1 (.tmp 5) (.tmp 22)), [], .none⟩]) (.seq (.reg [⟨(.some 23), .none, (.load .true 1 (.tmp 5)), [], .none⟩, ⟨(.some 24), .none, (.rdp (.mkifc 25) [(.tmp 23)]), [], .none⟩, ⟨(.some 25), .none, (.mov (.tmp 0)), [], .none⟩, ⟨(.some 26), .none, (.bin .rem (.tmp 25) (.const (bn 8))), [], .none⟩, ⟨(.some 27), .none, (.cvt .i64 (.tmp 26)), [], .none⟩, ⟨(.some 28), .none, (.xc (.dir 7) [(.tmp 24), (.tmp 27)] [] []), [], .none⟩, ⟨(.some 6), .none, (.alloc 65 (.st [32, 32, 1] [(.arr 1 (List.replicate 32 (.lit (bn 0)))), (.arr 1 (List.replicate 32 (.lit (bn 0)))), (.lit (.slice .none 0 0))])), [], .none⟩, ⟨.none, .none, (.store 65 (.tmp 6) (.tmp 28)), [], .none⟩]) (.seq (.reg [⟨(.some 29), .none, (.load .true 1 (.tmp 5)), [], .none⟩, ⟨(.some 30), .none, (.rdp (.mkifc 25) [(.tmp 29)]), [], .none⟩, ⟨(.some 31), .none, (.load .true 65 (.tmp 6)), [], .none⟩, ⟨(.some 32), .none, (.xc (.dir 8) [(.tmp 30), (.tmp 31)] [] []), [], .none⟩, ⟨(.some 7), .none, (.alloc 65 (.st [32, 32, 1] [(.arr 1 (List.replicate 32 (.lit (bn 0)))), (.arr 1 (List.replicate 32 (.lit (bn 0)))), (.lit (.slice .none 0 0))])), [], .none⟩, ⟨.none, .none, (.store 65 (.tmp 7) (.tmp 32)), [], .none⟩]) (.seq (.seq (.reg [⟨(.some 8), .none, (.mov (.const (jn 0))), [], .none⟩]) (.block 0 (.loop (.seq (.seq (.reg [⟨(.some 33), .none, (.mov (.tmp 8)), [], .none⟩, ⟨(.some 34), .none, (.mov (.tmp 1)), [], .none⟩, ⟨(.some 35), .none, (.bin .rem (.tmp 34) (.const (bn 12))), [], .none⟩, ⟨(.some 36), .none, (.cvt .i64 (.tmp 35)), [], .none⟩, ⟨(.some 37), .none, (.bin .lss (.tmp 33) (.tmp 36)), [], .none⟩]) (.cond (.tmp 37) .skip (.exit 0))) (.seq (.block 1 (.seq (.reg [⟨(.some 40), .none, (.mov (.tmp 8)), [], .none⟩, ⟨(.some 41), .none, (.cvt .u64 (.tmp 40)), [], .none⟩, ⟨(.some 42), .none, (.call 9 [(.tmp 41)]), [], .none⟩, ⟨(.some 9), .none, (.mov (.tmp 42)), [], .none⟩]) (.seq (.reg [⟨(.some 44), .none, (.load .true 1 (.tmp 5)), [10, 11, 12], (.some 5)⟩, ⟨(.some 45), .none, (.rdp (.mkifc 25) [(.tmp 44)]), [], .none⟩, ⟨(.some 46), .none, (.faddr 0 0 (.tmp 5)), [], .none⟩, ⟨(.some 47), .none, (.load .false 1 (.tmp 46)), [10, 11, 12], (.some 5)⟩, ⟨(.some 48), .none, (.mov (.tmp 9)), [], .none⟩, ⟨(.some 49), .none, (.bin .add (.const (tx [97, 32])) (.tmp 48)), [], .none⟩, ⟨(.some 50), .none, (.xc (.dir 11) [(.tmp 47), (.tmp 49)] [5, 5, 7] [10, 11, 12]), [], .none⟩, ⟨(.some 51), .none, (.faddr 0 0 (.tmp 5)), [], .none⟩, ⟨(.some 52), .none, (.load .false 1 (.tmp 51)), [10, 11, 12], (.some 5)⟩, ⟨(.some 53), .none, (.mov (.tmp 9)), [], .none⟩, ⟨(.some 54), .none, (.bin .add (.const (tx [98, 32])) (.tmp 53)), [], .none⟩, ⟨(.some 55), .none, (.xc (.dir 11) [(.tmp 52), (.tmp 54)] [5, 7] [10, 11, 12]), [], .none⟩, ⟨(.some 56), .none, (.load .true 65 (.tmp 7)), [10, 11, 12], (.some 7)⟩, ⟨(.some 57), .none, (.xc (.dir 10) [(.tmp 45), (.tmp 50), (.tmp 55), (.tmp 56)] [] [10, 11, 12]), [], .none⟩, ⟨(.some 43), .none, (.mov (.tmp 57)), [], .none⟩, ⟨(.some 58), .none, (.ext (.tmp 43) 0), [], .none⟩, ⟨(.some 59), .none, (.ext (.tmp 43) 1), [], .none⟩, ⟨(.some 60), .none, (.ext (.tmp 43) 2), [], .none⟩, ⟨(.some 61), .none, (.ext (.tmp 43) 3), [], .none⟩, ⟨(.some 10), .none, (.alloc 96 (.st [32, 32, 32] [(.arr 1 (List.replicate 32 (.lit (bn 0)))), (.arr 1 (List.replicate 32 (.lit (bn 0)))), (.arr 1 (List.replicate 32 (.lit (bn 0))))])), [], .none⟩, ⟨(.some 11), .none, (.alloc 32 (.arr 1 (List.replicate 32 (.lit (bn 0))))), [], .none⟩, ⟨(.some 12), .none, (.alloc 65 (.st [32, 32, 1] [(.arr 1 (List.replicate 32 (.lit (bn 0)))), (.arr 1 (List.replicate 32 (.lit (bn 0)))), (.lit (.slice .none 0 0))])), [], .none⟩, ⟨.none, .none, (.store 96 (.tmp 10) (.tmp 58)), [], .none⟩, ⟨.none, .none, (.store 32 (.tmp 11) (.tmp 59)), [], .none⟩, ⟨.none, .none, (.store 65 (.tmp 12) (.tmp 60)), [], .none⟩, ⟨(.some 13), .none, (.mov (.tmp 61)), [], .none⟩]) (.seq (.reg [⟨(.some 63), .none, (.load .true 1 (.tmp 5)), [], .none⟩, ⟨(.some 64), .none, (.rdp (.mkifc 25) [(.tmp 63)]), [], .none⟩, ⟨(.some 65), .none, (.load .true 65 (.tmp 6)), [], .none⟩, ⟨(.some 66), .none, (.load .true 96 (.tmp 10)), [], .none⟩, ⟨(.some 67), .none, (.xc (.dir 12) [(.tmp 64), (.tmp 65), (.tmp 66)] [] []), [], .none⟩, ⟨(.some 62), .none, (.mov (.tmp 67)), [], .none⟩, ⟨(.some 68), .none, (.ext (.tmp 62) 0), [], .none⟩, ⟨(.some 69), .none, (.ext (.tmp 62) 1), [], .none⟩, ⟨(.some 70), .none, (.ext (.tmp 62) 2), [], .none⟩, ⟨(.some 14), .none, (.alloc 65 (.st [32, 32, 1] [(.arr 1 (List.replicate 32 (.lit (bn 0)))), (.arr 1 (List.replicate 32 (.lit (bn 0)))), (.lit (.slice .none 0 0))])), [], .none⟩, ⟨(.some 15), .none, (.alloc 32 (.arr 1 (List.replicate 32 (.lit (bn 0))))), [], .none⟩, ⟨.none, .none, (.store 65 (.tmp 14) (.tmp 68)), [], .none⟩, ⟨.none, .none, (.store 32 (.tmp 15) (.tmp 69)), [], .none⟩, ⟨(.some 16), .none, (.mov (.tmp 70)), [], .none⟩]) (.seq (.seq (.reg [⟨(.some 71), .none, (.mov (.tmp 13)), [], .none⟩, ⟨(.some 72), .none, (.bin .neq (.tmp 71) (.const (jn 0))), [], .none⟩, ⟨(.some 73), .none, (.mov (.tmp 72)), [], .none⟩, ⟨(.some 74), (.some (73, .false)), (.mov (.tmp 16)), [], .none⟩, ⟨(.some 75), (.some (73, .false)), (.bin .neq (.tmp 74) (.const (jn 0))), [], .none⟩, ⟨(.some 76), .none, (.pick (.tmp 73) (.const (.bool .true)) (.tmp 75)), [], .none⟩, ⟨(.some 77), .none, (.mov (.tmp 76)), [], .none⟩, ⟨(.some 78), (.some (77, .false)), (.load .true 32 (.tmp 11)), [], .none⟩, ⟨(.some 79), (.some (77, .false)), (.load .true 32 (.tmp 15)), [], .none⟩, ⟨(.some 80), (.some (77, .false)), (.eqv 28 .true (.tmp 78) (.tmp 79)), [], .none⟩, ⟨(.some 81), .none, (.pick (.tmp 77) (.const (.bool .true)) (.tmp 80)), [], .none⟩, ⟨(.some 82), .none, (.mov (.tmp 81)), [], .none⟩, ⟨(.some 83), (.some (82, .false)), (.faddr 64 2 (.tmp 14)), [], .none⟩, ⟨(.some 84), (.some (82, .false)), (.load .false 1 (.tmp 83)), [], .none⟩, ⟨(.some 85), (.some (82, .false)), (.len .false (.tmp 84)), [], .none⟩, ⟨(.some 86), (.some (82, .false)), (.faddr 64 2 (.tmp 12)), [], .none⟩, ⟨(.some 87), (.some (82, .false)), (.load .false 1 (.tmp 86)), [], .none⟩, ⟨(.some 88), (.some (82, .false)), (.len .false (.tmp 87)), [], .none⟩, ⟨(.some 89), (.some (82, .false)), (.bin .neq (.tmp 85) (.tmp 88)), [], .none⟩, ⟨(.some 90), .none, (.pick (.tmp 82) (.const (.bool .true)) (.tmp 89)), [], .none⟩, ⟨(.some 91), .none, (.mov (.tmp 90)), [], .none⟩, ⟨(.some 92), (.some (91, .false)), (.faddr 64 2 (.tmp 10)), [], .none⟩, ⟨(.some 93), (.some (91, .false)), (.load .true 32 (.tmp 92)), [], .none⟩, ⟨(.some 94), (.some (91, .false)), (.build (.arr 1 (List.replicate 32 (.lit (bn 0)))) []), [], .none⟩, ⟨(.some 95), (.some (91, .false)), (.eqv 28 .false (.tmp 93) (.tmp 94)), [], .none⟩, ⟨(.some 96), (.some (91, .false)), (.faddr 64 2 (.tmp 7)), [], .none⟩, ⟨(.some 97), (.some (91, .false)), (.load .false 1 (.tmp 96)), [], .none⟩, ⟨(.some 98), (.some (91, .false)), (.len .false (.tmp 97)), [], .none⟩, ⟨(.some 99), (.some (91, .false)), (.bin .eql (.tmp 98) (.const (jn 0))), [], .none⟩, ⟨(.some 100), (.some (91, .false)), (.beq .true (.tmp 95) (.tmp 99)), [], .none⟩, ⟨(.some 101), .none, (.pick (.tmp 91) (.const (.bool .true)) (.tmp 100)), [], .none⟩]) (.cond (.tmp 101) (.seq (.reg [⟨(.some 4), .none, (.mov (.const (.bool .false))), [], .none⟩]) .ret) .skip)) (.seq (.reg [⟨(.some 103), .none, (.load .true 1 (.tmp 5)), [], .none⟩, ⟨(.some 104), .none, (.rdp (.mkifc 25) [(.tmp 103)]), [], .none⟩, ⟨(.some 105), .none, (.load .true 65 (.tmp 14)), [], .none⟩, ⟨(.some 106), .none, (.load .true 96 (.tmp 10)), [], .none⟩, ⟨(.some 107), .none, (.xc (.dir 12) [(.tmp 104), (.tmp 105), (.tmp 106)] [] []), [], .none⟩, ⟨(.some 102), .none, (.mov (.tmp 107)), [], .none⟩, ⟨(.some 108), .none, (.ext (.tmp 102) 0), [], .none⟩, ⟨(.some 109), .none, (.ext (.tmp 102) 1), [], .none⟩, ⟨(.some 110), .none, (.ext (.tmp 102) 2), [], .none⟩, ⟨(.some 17), .none, (.alloc 65 (.st [32, 32, 1] [(.arr 1 (List.replicate 32 (.lit (bn 0)))), (.arr 1 (List.replicate 32 (.lit (bn 0)))), (.lit (.slice .none 0 0))])), [], .none⟩, ⟨(.some 18), .none, (.alloc 32 (.arr 1 (List.replicate 32 (.lit (bn 0))))), [], .none⟩, ⟨.none, .none, (.store 65 (.tmp 17) (.tmp 108)), [], .none⟩, ⟨.none, .none, (.store 32 (.tmp 18) (.tmp 109)), [], .none⟩, ⟨(.some 19), .none, (.mov (.tmp 110)), [], .none⟩]) (.seq (.seq (.reg [⟨(.some 111), .none, (.faddr 64 2 (.tmp 10)), [], .none⟩, ⟨(.some 112), .none, (.load .true 32 (.tmp 111)), [], .none⟩, ⟨(.some 113), .none, (.build (.arr 1 (List.replicate 32 (.lit (bn 0)))) []), [], .none⟩, ⟨(.some 114), .none, (.eqv 28 .true (.tmp 112) (.tmp 113)), [], .none⟩, ⟨(.some 115), .none, (.mov (.tmp 114)), [], .none⟩, ⟨(.some 116), (.some (115, .true)), (.mov (.tmp 19)), [], .none⟩, ⟨(.some 117), (.some (115, .true)), (.bin .neq (.tmp 116) (.const (jn 22))), [], .none⟩, ⟨(.some 118), .none, (.pick (.tmp 115) (.tmp 117) (.const (.bool .false))), [], .none⟩, ⟨(.some 119), .none, (.mov (.tmp 118)), [], .none⟩, ⟨(.some 120), (.some (119, .false)), (.faddr 64 2 (.tmp 10)), [], .none⟩, ⟨(.some 121), (.some (119, .false)), (.load .true 32 (.tmp 120)), [], .none⟩, ⟨(.some 122), (.some (119, .false)), (.build (.arr 1 (List.replicate 32 (.lit (bn 0)))) []), [], .none⟩, ⟨(.some 123), (.some (119, .false)), (.eqv 28 .false (.tmp 121) (.tmp 122)), [], .none⟩, ⟨(.some 124), (.some (119, .false)), (.mov (.tmp 123)), [], .none⟩, ⟨(.some 125), (.some (124, .true)), (.mov (.tmp 19)), [], .none⟩, ⟨(.some 126), (.some (124, .true)), (.bin .neq (.tmp 125) (.const (jn 0))), [], .none⟩, ⟨(.some 127), (.some (119, .false)), (.pick (.tmp 124) (.tmp 126) (.const (.bool .false))), [], .none⟩, ⟨(.some 128), .none, (.pick (.tmp 119) (.const (.bool .true)) (.tmp 127)), [], .none⟩]) (.cond (.tmp 128) (.seq (.reg [⟨(.some 4), .none, (.mov (.const (.bool .false))), [], .none⟩]) .ret) .skip)) (.seq (.reg [⟨(.some 129), .none, (.load .true 65 (.tmp 14)), [], .none⟩, ⟨.none, .none, (.store 65 (.tmp 6) (.tmp 129)), [], .none⟩]) (.reg [⟨(.some 130), .none, (.load .true 65 (.tmp 12)), [], .none⟩, ⟨.none, .none, (.store 65 (.tmp 7) (.tmp 130)), [], .none⟩]))))))))) (.reg [⟨(.some 38), .none, (.mov (.tmp 8)), [], .none⟩, ⟨(.some 39), .none, (.bin .add (.tmp 38) (.const (jn 1))), [], .none⟩, ⟨(.some 8), .none, (.mov (.tmp 39)), [], .none⟩])))))) (.seq (.reg [⟨(.some 131), .none, (.call 5 []), [], .none⟩, ⟨(.some 4), .none, (.mov (.tmp 131)), [], .none⟩]) .ret)))))))
def fc400 : FC := ⟨2, 132, [(.tmp 4)], fb400⟩
theorem fc400_eq : compF Go.Proofs.Try.prog 3 = some fc400 := by kernel_rfl

def btS (N : Nat) (H : List (Option Blk)) (t : Tb) (ones gr : Nat) (l5 l6 l7 : Nat × Nat) (x : Nat × Store × Store × List Term × Value) : AS :=
  ⟨N, [.lit (bn ones), .lit (bn gr), .any, .any, .lit (.bool false), .ptr (N + 5) l5 0 [], .ptr (N + 6) l6 0 [], .ptr (N + 7) l7 0 [], .lit (jn x.1)] ++ List.replicate 123 .any,
    tbOf H t x.2.2.2.2 x.2.2.2.1 ++ ([none, none, none, none, none, some (.box l5 1 (freeS t.b t.l)), some (.box l6 65 (storeA x.2.1)), some (.box l7 65 (storeA x.2.2.1))] ++ List.replicate 124 none)⟩
theorem cvt_8x (n : Nat) (h : n < 256) : cvtA .i64 (.lit (bn n)) = some (.lit (jn n)) := by
  simp only [cvtA, bn, wrap_i64 (Int.le_trans (by decide) (Int.natCast_nonneg n)) (by omega)]
  rfl
theorem tx_len2 {i : Nat} (a b : UInt8) (hi : i < 100) : ([a, b] ++ digs i).length < 1000 := by have := digs_len i; simp only [List.length_append, List.length_cons, List.length_nil]; omega
theorem Sh.hd {ts : List Term} {s b : Store} (h : Sh ts s b) : (b.ones.headD zk = zk) ↔ b.ones.length = 0 := by
  obtain ⟨_, _, h3, _, _⟩ := h
  generalize s.ones = x at *
  generalize b.ones = y at *
  match x, y, h3 with
  | [], [], _ => simp
  | o :: os, y :: ys, ⟨_, k2, _⟩ => simp; exact k2.nz
  | [], _ :: _, h => exact h.elim
  | _ :: _, [], h => exact h.elim

set_option maxHeartbeats 64000000 in
theorem bundleMeets_call (ones gr : Nat) (ho : ones < 256) (hg : gr < 256) : PCall Go.Proofs.Try.prog 3 [.lit (bn ones), .lit (bn gr)] (.val (.lit (.bool true))) := by
  have h400 := fc400_eq
  have hc6 : callable Go.Proofs.Try.prog 6 = true := by kernel_rfl
  have hc7 : callable Go.Proofs.Try.prog 7 = true := by kernel_rfl
  have hc8 : callable Go.Proofs.Try.prog 8 = true := by kernel_rfl
  have hc10 : callable Go.Proofs.Try.prog 10 = true := by kernel_rfl
  have hc12 : callable Go.Proofs.Try.prog 12 = true := by kernel_rfl
  have al := alive_call
  refine PCall.of h400 rfl ?_; show AC.wp _ fb400 (AS.init [.lit (bn ones), .lit (bn gr)] 2 132) (fun x s => match x with | .exit _ => False | _ => Fin [(.tmp 4)] s _); unfold fb400 AS.init
  refine wp_sr (by simp [push_cast]; exact rfl) ?_
  refine wp_seq' (wp_seq' (wp_rg ?_))
  refine areg_ca (by simp [AS.ev, AS.coe, AS.put] <;> exact rfl) al ?_
  refine areg_end (by simp [push_cast]; exact rfl) ?_
  refine wp_cond_f rfl (wp_skip' ?_)
  refine wp_sgL ?_
  refine areg_run 0 (by simp [push_cast]; exact rfl) ?_
  refine areg_xq (us := []) rfl (by simp only [tgtA, tgtB, Option.bind_some, hc6, if_true]) (newfree_call _) ⟨_, _, (0, 0), 0, rfl, rfl⟩ (fun r hp' _ t' ht' => by cases ht') ?_
  rintro r H' ⟨l, rr, rfl, rfl⟩
  refine areg_run 0 (by simp [push_cast]; exact rfl) ?_
  refine areg_al' rfl fun l5 => areg_end (by simp [push_cast, freeS_sz, freeS_agg, freeS_tup]; exact rfl) ?_
  refine wp_kit (n := 132) (Lo := [none, none, none, none, none, some (.box l5 1 (freeS 132 l))] ++ List.replicate 126 none) (fun N t => [.lit (bn ones), .lit (bn gr), .any, .any, .lit (.bool false), .ptr (N + 5) l5 0 []] ++ List.replicate 126 .any) (fun N t => [none, none, none, none, none, some (.box l5 1 (freeS t.b t.l))] ++ List.replicate 126 none) rfl ?_ ?_ fun N H t V hh hN => ?_
  · simp [leA, RelLe.refl', RelLe.ptr']
  · simp [leB, tbNew, BlkLe.freeS']
  have G1 : ∀ V' ts', (tbOf H t V' ts').length = N := fun V' ts' => by rw [tbOf_len, hN]
  have g1 : ∀ V' ts' L k, (tbOf H t V' ts' ++ L)[N + k]? = L[k]? := fun V' ts' L k => cat1 _ _ _ _ (G1 _ _)
  have g2 : ∀ V' ts' L k x, (tbOf H t V' ts' ++ L).set (N + k) x = tbOf H t V' ts' ++ L.set k x := fun V' ts' L k x => cat2 _ _ _ _ _ (G1 _ _)
  obtain ⟨r1, r2, r3, r4, r5, r6⟩ := storeT_ok TsOk.nil (n := ones % 8) (by omega) (by simp)
  have hsk := store_k hh TsOk.nil (n := ones % 8) (by omega) (by simp)
  generalize storeT [] (ones % 8) = st at *
  obtain ⟨s, ts1⟩ := st
  obtain ⟨sid, spre, sones⟩ := s
  have r1' := r1
  obtain ⟨s1, s2, s3, s4⟩ := r1
  simp only at r2 r3 r4 r5 r6 s1 s2 s3 s4 hsk r1'
  obtain ⟨q1, q2, q3, q4⟩ := showT_ok r4 r1' r2 (by simp at r5; omega)
  have hshk := show_k hh r4 r1' (by simp at r5; omega)
  generalize showT ts1 ⟨sid, spre, sones⟩ = sh at *
  obtain ⟨b, ts2⟩ := sh
  obtain ⟨bid, bpre, bones⟩ := b
  simp only at q1 q2 q3 q4 hshk
  have z1 := q1.okb.id
  have z2 := q1.okb.pre
  simp only at z1 z2
  have hm8 : cvtA .i64 (.lit (bn (ones % 8))) = some (.lit (jn (ones % 8))) := cvt_8x _ (by omega)
  refine wp_sg ?_
  refine areg_run 1 (by simp [push_cast, g1, freeS_sz, freeS_agg, freeS_tup]; exact rfl) ?_
  refine areg_rdp (us := [freeS t.b t.l]) rfl (mkifc_free _ _) ?_
  refine areg_run 3 (by simp [push_cast, hm8]; exact rfl) ?_
  refine areg_k [freeI t.b t.l, .lit (jn (ones % 8))] hN rfl (by simp only [tgtA, tgtB, Option.bind_some, hc7, if_true]) hsk (by simp) (by simp) fun V1 => ?_
  refine areg_al' (z' := zst) (by rw [zst, zk_eq]) fun l6 => areg_end (by simp [push_cast, g1, g2, storeA, zst, zk_len, s1, s2]; exact rfl) ?_
  refine wp_sg ?_
  refine areg_run 1 (by simp [push_cast, g1, freeS_sz, freeS_agg, freeS_tup]; exact rfl) ?_
  refine areg_rdp (us := [freeS t.b t.l]) rfl (mkifc_free _ _) ?_
  refine areg_run 1 (by simp [push_cast, g1, storeA, s1, s2]; exact rfl) ?_
  refine areg_k [freeI t.b t.l, storeA ⟨sid, spre, sones⟩] hN rfl (by simp only [tgtA, tgtB, Option.bind_some, hc8, if_true]) hshk (by simp) (by simp [AS.ev, AV.place]) fun V2 => ?_
  refine areg_al' (z' := zst) (by rw [zst, zk_eq]) fun l7 => areg_end (by simp [push_cast, g1, g2, storeA, zst, zk_len, z1, z2]; exact rfl) ?_
  refine wp_seq' (wp_seq' (wp_r (by simp [push_cast]; exact rfl) ?_))
  have hm12 : gr % 12 < 12 := Nat.mod_lt _ (by omega)
  refine wp_block' (wp_loop_m (btS N H t ones gr l5 l6 l7) (fun x => gr % 12 - x.1) (fun x => Sh x.2.2.2.1 x.2.1 x.2.2.1 ∧ TsOk x.2.2.2.1 ∧ x.1 ≤ gr % 12 ∧ x.2.2.2.1.length ≤ 100 + 40 * x.1) (0, ⟨sid, spre, sones⟩, ⟨bid, bpre, bones⟩, ts2, V2) (Le.mk rfl (by simp [btS, leT]) ?_) ⟨q1, q2, by simp, by simp at q3 r5 ⊢; omega⟩ ?_)
  · simp only [btS]
    exact leH_app (leH_refl _) (by simp [leH, storeA, keyA])
  clear hsk hshk q1 q2 q3 q4 r2 r3 r4 r5 r6 s1 s2 s3 s4 z1 z2 r1'
  clear sid spre sones bid bpre bones ts1 ts2 V1 V2
  rintro ⟨i, s, b, ts, V1⟩ ⟨hsh, hts, hi, hlen⟩
  simp only at hsh hts hi hlen ⊢
  have hm12' : cvtA .i64 (.lit (bn (gr % 12))) = some (.lit (jn (gr % 12))) := cvt_8x _ (by omega)
  unfold btS
  simp only
  by_cases hlt : i < gr % 12
  · obtain ⟨sid, spre, sones⟩ := s
    obtain ⟨bid, bpre, bones⟩ := b
    have c := digsx_call i (by omega)
    have hcv := cvt_64jx i (by omega)
    have tl := tx_len2 97 32 (i := i) (by omega)
    have tl2 := tx_len2 98 32 (i := i) (by omega)
    have hb1 : binVal .add (tx [97, 32]) (tx (digs i)) = some (tx ([97, 32] ++ digs i)) := bin_adds _ _ (by have := digs_len i; simp only [List.length_cons, List.length_nil]; omega)
    have hb2 : binVal .add (tx [98, 32]) (tx (digs i)) = some (tx ([98, 32] ++ digs i)) := bin_adds _ _ (by have := digs_len i; simp only [List.length_cons, List.length_nil]; omega)
    have l1' := putT_len ts (drawT ([97, 32] ++ digs i))
    have l2' := putT_len (putT ts (drawT ([97, 32] ++ digs i))) (drawT ([98, 32] ++ digs i))
    have h1 := hts.draw tl (by omega)
    have h2 := h1.draw tl2 (by omega)
    have hdk1 := draw_k hh (ts := ts) (s := [97, 32] ++ digs i) (by omega) (by omega)
    have hdk2 := draw_k hh (ts := putT ts (drawT ([97, 32] ++ digs i))) (s := [98, 32] ++ digs i) (by omega) (by omega)
    have k1 := nameK_len (putN ts (drawT ([97, 32] ++ digs i)))
    have k2 := nameK_len (putN (putT ts (drawT ([97, 32] ++ digs i))) (drawT ([98, 32] ++ digs i)))
    have hsh := (hsh.mono (put_pre ts (drawT ([97, 32] ++ digs i)))).mono (put_pre _ (drawT ([98, 32] ++ digs i)))
    generalize nameK (putN (putT ts (drawT ([97, 32] ++ digs i))) (drawT ([98, 32] ++ digs i))) = kb at *
    generalize nameK (putN ts (drawT ([97, 32] ++ digs i))) = ka at *
    generalize putT (putT ts (drawT ([97, 32] ++ digs i))) (drawT ([98, 32] ++ digs i)) = ts3 at *
    generalize putT ts (drawT ([97, 32] ++ digs i)) = ts2 at *
    generalize [97, 32] ++ digs i = na at *
    generalize [98, 32] ++ digs i = nb at *
    obtain ⟨x, ts5, hm⟩ := meets h2 k1 k2 hsh (by omega)
    have hbk := begin_k hh h2 k1 k2 hsh.okb (by omega)
    rw [hm.beg] at hbk
    have hml := hm.len
    have hak := answer_k hh hm.ok hsh.ok hm.hok (by omega)
    rw [hm.ans] at hak
    have hnx := hm.sh
    have hak2 := answer_k hh hm.ok hm.sh.ok hm.hok (by omega)
    rw [hm.again] at hak2
    obtain ⟨xh, xk, xr⟩ := x
    have hx32 := hm.sec
    have hxr := hm.rest
    have hxo := hm.one
    have hlb := hsh.ones.len.1
    have hhd := hsh.hd
    obtain ⟨m1, m2, m3⟩ := hm.hok
    have z1 := hsh.okb.id
    have z2 := hsh.okb.pre
    have s1 := hsh.ok.id
    have s2 := hsh.ok.pre
    have hmok := hm.ok
    clear hm
    simp only at hx32 hxr hxo hak hak2 hbk m1 m2 m3 hlb hhd z1 z2 s1 s2 hnx
    subst hxr
    have hld : (klA (List.drop 1 sones)).length = (klA (List.drop 1 bones)).length := by rw [klA_len, klA_len, List.length_drop, List.length_drop, hlb]
    generalize List.drop 1 sones = sr at *
    generalize List.drop 1 bones = br at *
    obtain ⟨xhi, xhe, xho⟩ := xh
    simp only at m1 m2 m3 hxo
    refine wp_seq' (wp_sr (by simp [push_cast, hm12', hlt]; exact rfl) ?_)
    refine wp_cond_t (by simp [AS.ev]) (wp_skip' ?_)
    refine wp_seq' (wp_block' (wp_sg ?_))
    refine areg_run 2 (by simp [push_cast, hcv]; exact rfl) ?_
    refine areg_ca (by simp [AS.ev, AS.coe, AS.put] <;> exact rfl) c ?_
    refine areg_end (by simp [push_cast]; exact rfl) ?_
    refine wp_sg ?_
    refine areg_run 1 (by simp [push_cast, g1, freeS_sz, freeS_agg, freeS_tup]; exact rfl) ?_
    refine areg_rdp (us := [freeS t.b t.l]) rfl (mkifc_free _ _) ?_
    refine areg_run 4 (by simp [push_cast, g1, freeS, hb1]; exact rfl) ?_
    refine areg_k [.ptr t.b t.l 0 [], .lit (tx na)] hN rfl (tgt_drawD _ _ _) hdk1 (by simp) (by simp [AS.ev, AV.place]) fun V2 => ?_
    refine areg_run 4 (by simp [push_cast, g1, freeS, hb2]; exact rfl) ?_
    refine areg_k [.ptr t.b t.l 0 [], .lit (tx nb)] hN rfl (tgt_drawD _ _ _) hdk2 (by simp) (by simp [AS.ev, AV.place]) fun V3 => ?_
    refine areg_run 1 (by simp [push_cast, g1, storeA, z1, z2]; exact rfl) ?_
    refine areg_k [freeI t.b t.l, keyA ka, keyA kb, storeA ⟨bid, bpre, bones⟩] hN rfl (by simp only [tgtA, tgtB, Option.bind_some, hc10, if_true]) hbk (by simp) (by simp [AS.ev, AV.place]) fun V5 => ?_
    refine areg_run 5 (by simp [push_cast, begunA]; exact rfl) ?_
    refine areg_al' (z' := helloA zhello) (by rw [helloA, zhello, zk_eq]) fun l10 => areg_al' zk_eq.symm fun l11 => areg_al' (z' := zst) (by rw [zst, zk_eq]) fun l12 => areg_end (by simp [push_cast, g1, g2, helloA, storeA, zhello, zst, zk_len, hx32, z1, z2, m1, m2, m3]; exact rfl) ?_
    refine wp_sg ?_
    refine areg_run 1 (by simp [push_cast, g1, freeS_sz, freeS_agg, freeS_tup]; exact rfl) ?_
    refine areg_rdp (us := [freeS t.b t.l]) rfl (mkifc_free _ _) ?_
    refine areg_run 2 (by simp [push_cast, g1, storeA, helloA, s1, s2, m1, m2, m3]; exact rfl) ?_
    refine areg_k [freeI t.b t.l, storeA ⟨sid, spre, sones⟩, helloA ⟨xhi, xhe, xho⟩] hN rfl (by simp only [tgtA, tgtB, Option.bind_some, hc12, if_true]) hak (by simp) (by simp [AS.ev, AV.place]) fun V6 => ?_
    refine areg_run 4 (by simp [push_cast, answeredA]; exact rfl) ?_
    refine areg_al' (z' := zst) (by rw [zst, zk_eq]) fun l14 => areg_al' zk_eq.symm fun l15 => areg_end (by simp [push_cast, g1, g2, helloA, storeA, zhello, zst, zk_len, hx32, s1, s2]; exact rfl) ?_
    have e1 := eq_key hx32 hx32
    have e4 : EqAV Go.Proofs.Try.prog 28 (keyA xho) (keyA zk) (decide (bones.length = 0)) := by
      have := eq_key m3 zk_len
      rwa [show decide (xho = zk) = decide (bones.length = 0) from decide_eq_decide.2 (by rw [hxo]; exact hhd)] at this
    refine wp_seq' (wp_seq' (wp_rg ?_))
    refine areg_run 9 (by simp [push_cast, g1, hx32]; exact rfl) ?_
    refine areg_g (b := false) (by simp [AS.ev, AS.put]) (areg_eq (by simp [AS.ev, AS.put] <;> exact rfl) (by simp [AS.ev, AS.put] <;> exact rfl) e1 rfl rfl ?_)
    refine areg_run 13 (by simp [push_cast, g1, hld, m1, m2, m3]; exact rfl) ?_
    refine areg_g (b := false) (by simp [AS.ev, AS.put]) (areg_bz ?_)
    refine areg_g (b := false) (by simp [AS.ev, AS.put]) (areg_eq (by simp [AS.ev, AS.put] <;> exact rfl) (by simp [AS.ev, AS.put] <;> exact rfl) e4 rfl rfl ?_)
    refine areg_end (by simp [push_cast, g1, klA_len]; exact rfl) ?_
    refine wp_cond_f (by simp [AS.ev]) (wp_skip' ?_)
    have hs1' := hnx.ok.id
    have hs2' := hnx.ok.pre
    have e5 : EqAV Go.Proofs.Try.prog 28 (keyA xho) (keyA zk) (decide (sones = [])) := by
      have := eq_key m3 zk_len
      rwa [show decide (xho = zk) = decide (sones = []) from decide_eq_decide.2 (by rw [hxo, hhd, ← hlb]; exact List.length_eq_zero_iff)] at this
    refine wp_sg ?_
    refine areg_run 1 (by simp [push_cast, g1, freeS_sz, freeS_agg, freeS_tup]; exact rfl) ?_
    refine areg_rdp (us := [freeS t.b t.l]) rfl (mkifc_free _ _) ?_
    refine areg_run 2 (by simp [push_cast, g1, storeA, helloA, s1, s2, m1, m2, m3]; exact rfl) ?_
    refine areg_k [freeI t.b t.l, storeA ⟨sid, spre, sr⟩, helloA ⟨xhi, xhe, xho⟩] hN rfl (by simp only [tgtA, tgtB, Option.bind_some, hc12, if_true]) hak2 (by simp) (by simp [AS.ev, AV.place]) fun V7 => ?_
    by_cases hnil : sones = []
    · simp only [hnil, if_true]
      refine areg_run 4 (by simp [push_cast, answeredA]; exact rfl) ?_
      refine areg_al' (z' := zst) (by rw [zst, zk_eq]) fun l17 => areg_al' zk_eq.symm fun l18 => areg_end (by simp [push_cast, g1, g2, helloA, storeA, zhello, zst, zk_len, hx32, s1, s2]; exact rfl) ?_
      refine wp_seq' (wp_seq' (wp_rg ?_))
      refine areg_run 2 (by simp [push_cast, g1, m1, m2, m3]; exact rfl) ?_
      refine areg_bz (areg_eq (by simp [AS.ev, AS.put] <;> exact rfl) (by simp [AS.ev, AS.put] <;> exact rfl) e5 rfl rfl ?_)
      refine areg_run 7 (by simp [push_cast, g1, m1, m2, m3, hnil]; exact rfl) ?_
      refine areg_g (b := false) (by simp [AS.ev, AS.put]) (areg_bz ?_)
      refine areg_g (b := false) (by simp [AS.ev, AS.put]) (areg_eq (by simp [AS.ev, AS.put] <;> exact rfl) (by simp [AS.ev, AS.put] <;> exact rfl) e5 rfl rfl ?_)
      refine areg_end (by simp [push_cast, g1, hnil]; exact rfl) ?_
      refine wp_cond_f (by simp [AS.ev]) (wp_skip' ?_)
      refine wp_sr (by simp [push_cast, g1, g2, storeA, s1, s2, hnil]; exact rfl) ?_
      refine wp_r (by simp [push_cast, g1, g2, storeA, z1, z2]; exact rfl) ?_
      refine wp_r (by simp [push_cast, show i + 1 < 9223372036854775808 by omega]; exact rfl) ?_
      refine Exists.intro (i + 1, ⟨sid, spre, sr⟩, ⟨bid, bpre, br⟩, ts5, V7) ⟨⟨hnx, hmok, by omega, by simp only; omega⟩, by simp only; omega, Le.mk rfl (by simp [leT]) ?_⟩
      exact leH_app (leH_refl _) (by simp [leH, storeA, keyA, hnil, freeS])
    · simp only [hnil, if_false]
      refine areg_run 4 (by simp [push_cast, answeredA]; exact rfl) ?_
      refine areg_al' (z' := zst) (by rw [zst, zk_eq]) fun l17 => areg_al' zk_eq.symm fun l18 => areg_end (by simp [push_cast, g1, g2, helloA, storeA, zhello, zst, zk_len, hx32, s1, s2]; exact rfl) ?_
      refine wp_seq' (wp_seq' (wp_rg ?_))
      refine areg_run 2 (by simp [push_cast, g1, m1, m2, m3]; exact rfl) ?_
      refine areg_bz (areg_eq (by simp [AS.ev, AS.put] <;> exact rfl) (by simp [AS.ev, AS.put] <;> exact rfl) e5 rfl rfl ?_)
      refine areg_run 7 (by simp [push_cast, g1, m1, m2, m3, hnil]; exact rfl) ?_
      refine areg_g (b := false) (by simp [AS.ev, AS.put]) (areg_bz ?_)
      refine areg_g (b := false) (by simp [AS.ev, AS.put]) (areg_eq (by simp [AS.ev, AS.put] <;> exact rfl) (by simp [AS.ev, AS.put] <;> exact rfl) e5 rfl rfl ?_)
      refine areg_end (by simp [push_cast, g1, hnil]; exact rfl) ?_
      refine wp_cond_f (by simp [AS.ev]) (wp_skip' ?_)
      refine wp_sr (by simp [push_cast, g1, g2, storeA, s1, s2, hnil]; exact rfl) ?_
      refine wp_r (by simp [push_cast, g1, g2, storeA, z1, z2]; exact rfl) ?_
      refine wp_r (by simp [push_cast, show i + 1 < 9223372036854775808 by omega]; exact rfl) ?_
      refine Exists.intro (i + 1, ⟨sid, spre, sr⟩, ⟨bid, bpre, br⟩, ts5, V7) ⟨⟨hnx, hmok, by omega, by simp only; omega⟩, by simp only; omega, Le.mk rfl (by simp [leT]) ?_⟩
      exact leH_app (leH_refl _) (by simp [leH, storeA, keyA, hnil, freeS])
  · refine wp_seq' (wp_sr (by simp [push_cast, hm12', hlt]; exact rfl) ?_)
    refine wp_cond_f (by simp [AS.ev, hlt]) (wp_exit' (if_hit rfl ?_))
    refine wp_sg ?_
    refine areg_ca (by simp [AS.ev, AS.coe, AS.put] <;> exact rfl) al ?_
    refine areg_end (by simp [push_cast]; exact rfl) (wp_ret' ?_)
    exact fin_tmp (by simp [RVal, AS.ev, AS.coe]) (by simp)
end Go.Cab
