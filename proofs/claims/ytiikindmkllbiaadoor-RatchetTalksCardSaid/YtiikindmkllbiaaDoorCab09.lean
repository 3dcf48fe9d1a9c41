/- Part 9 of what the proof stands on: G25, G28, G26, GQ, GM. -/
import Derived.Test.YtiikindmkllbiaaDoorCab08
import Derived.Test.YtiikindmkllbiaaDoorCab07
set_option linter.unusedSimpArgs false
set_option linter.unnecessarySimpa false
set_option linter.unusedVariables false
set_option linter.unusedSectionVars false
namespace Go.Cab
open Classical
def fb418 : AC := (.seq (.reg [⟨some 4, none, .mov (.const .nilFunc), [], none⟩]) (.seq (.reg [⟨some 9, none, .mov (.tmp 0), [], none⟩, ⟨some 10, none, .mov (.tmp 0), [], none⟩, ⟨some 11, none, .nilc (.tmp 10), [], none⟩, ⟨some 12, none, .faddr 0 0 (.tmp 11), [], none⟩, ⟨some 13, none, .load false 1 (.tmp 12), [], none⟩, ⟨some 14, none, .len false (.tmp 13), [], none⟩, ⟨some 15, none, .mkslice 4 1 1 (.lit (.bool false)) (.tmp 14) (.tmp 14), [], none⟩, ⟨some 16, none, .build (.st [1, 1] [(.lit (.pointer .none)), (.lit (.slice .none 0 0))]) [(0, (.tmp 9)), (1, (.tmp 15))], [], none⟩, ⟨some 17, none, .box 2 (.tmp 16), [], none⟩, ⟨some 5, none, .mov (.tmp 17), [], none⟩]) (.seq (.seq (.reg [⟨some 18, none, .mov (.tmp 1), [], none⟩, ⟨some 19, none, .len false (.tmp 18), [], none⟩, ⟨some 20, none, .mov (.const (jn 0)), [], none⟩]) (.block 0 (.loop (.seq (.reg [⟨some 21, none, .bin .lss (.tmp 20) (.tmp 19), [], none⟩]) (.seq (.cond (.tmp 21) .skip (.exit 0)) (.seq (.block 1 (.seq (.reg [⟨some 22, none, .iaddrS 32 (.tmp 18) (.tmp 20), [], none⟩, ⟨some 23, none, .load true 32 (.tmp 22), [], none⟩, ⟨some 7, none, .alloc 32 (.arr 1 (List.replicate 32 (.lit (bn 0)))), [], none⟩, ⟨none, none, .store 32 (.tmp 7) (.tmp 23), [], none⟩]) (.reg [⟨some 24, none, .mov (.tmp 5), [], none⟩, ⟨some 25, none, .load true 32 (.tmp 7), [], none⟩, ⟨some 26, none, .icall 28 (.tmp 24) [.tmp 25], [], none⟩]))) (.reg [⟨some 27, none, .bin .add (.tmp 20) (.const (jn 1)), [], none⟩, ⟨some 20, none, .mov (.tmp 27), [], none⟩]))))))) (.seq (.block 2 (.loop (.seq (.seq (.reg [⟨some 28, none, .mov (.tmp 5), [], none⟩, ⟨some 29, none, .icall 29 (.tmp 28) [], [], none⟩]) (.cond (.tmp 29) .skip (.exit 2))) (.block 3 .skip)))) (.seq (.reg [⟨some 30, none, .mov (.tmp 0), [], none⟩, ⟨some 31, none, .nilc (.tmp 30), [], none⟩, ⟨some 32, none, .faddr 0 0 (.tmp 31), [], none⟩, ⟨some 33, none, .load false 1 (.tmp 32), [50], .none⟩, ⟨some 34, none, .mov (.tmp 0), [], none⟩, ⟨some 35, none, .nilc (.tmp 34), [], none⟩, ⟨some 36, none, .faddr 0 0 (.tmp 35), [], none⟩, ⟨some 37, none, .load false 1 (.tmp 36), [50], .none⟩, ⟨some 38, none, .len false (.tmp 37), [50], .none⟩, ⟨some 39, none, .mov (.tmp 0), [], none⟩, ⟨some 40, none, .nilc (.tmp 39), [], none⟩, ⟨some 41, none, .faddr 0 0 (.tmp 40), [], none⟩, ⟨some 42, none, .load false 1 (.tmp 41), [50], .none⟩, ⟨some 43, none, .len false (.tmp 42), [50], .none⟩, ⟨some 44, none, .rdp (.cap3 3) [.tmp 33, .tmp 38, .tmp 43], [], none⟩, ⟨some 45, none, .mov (.tmp 0), [], none⟩, ⟨some 46, none, .nilc (.tmp 45), [], none⟩, ⟨some 47, none, .faddr 1 1 (.tmp 46), [], none⟩, ⟨some 48, none, .load false 1 (.tmp 47), [50], .none⟩, ⟨some 49, none, .build (.st [1, 1] [(.lit (.slice .none 0 0)), (.lit (.map .none))]) [(0, (.tmp 44)), (1, (.tmp 48))], [], none⟩, ⟨some 50, none, .box 2 (.tmp 49), [], none⟩, ⟨some 8, none, .mov (.tmp 50), [], none⟩]) (.seq (.reg [⟨some 51, none, .mov (.tmp 5), [], none⟩, ⟨some 52, none, .mov (.tmp 8), [], none⟩, ⟨some 53, none, .nilc (.tmp 51), [], none⟩, ⟨some 54, none, .faddr 0 0 (.tmp 53), [], none⟩, ⟨none, none, .store 1 (.tmp 54) (.tmp 52), [], none⟩]) (.seq (.reg [⟨some 55, none, .mov (.tmp 5), [], none⟩, ⟨some 56, none, .rdp (.mkfn (.func 30) 1) [.tmp 55], [], none⟩, ⟨some 4, none, .mov (.tmp 56), [], none⟩]) .ret)))))))
def fc418 : FC := ⟨2, 57, [(.tmp 4)], fb418⟩
theorem fc418_eq : compF Go.Proofs.Tryd.prog 15 = some fc418 := by kernel_rfl
theorem XCall.shape {P : Program} {f : FuncId} {vs : List AV} {H : List (Option Blk)} {K : AV → List (Option Blk) → Prop} {j e esz sl : Nat} {V : Value} {els : List AV} (hj : H[j]? = some (some (.row e V esz els sl)))
    (h : ((V = .slice none 0 0 ∧ els = []) ∨ ∃ g c, V = .slice (some ⟨g, 0, none⟩) els.length c ∧ els.length ≤ c) → XCall P f vs H K) : XCall P f vs H K := by
  intro w0 w regs Imm Vs hfr hth hheap hargs
  refine h ?_ w0 w regs Imm Vs hfr hth hheap hargs
  obtain ⟨⟨cs, hR, hown, _⟩, _⟩ := hheap.ok j _ (show (H[j]?).join = _ by rw [hj]; rfl)
  obtain ⟨hlen, hown2⟩ := hown
  rcases hown2 with ⟨h1, hn⟩ | ⟨g, cap, cur, rfl, h0, hg, hcapn, hcapm, hcs, htake⟩
  · exact .inl ⟨h1, List.eq_nil_of_length_eq_zero hn⟩
  · exact .inr ⟨g, cap, rfl, by omega⟩
theorem learnV_cnt (known : List Bool) (k : List UInt8) : (learnV known k).2.count false + (if (learnV known k).1 then 1 else 0) = known.count false ∧ ((learnV known k).1 = false → (learnV known k).2 = known) := by
  unfold learnV
  split
  · rename_i h
    obtain ⟨_, h2, h3⟩ := h
    refine ⟨?_, by simp⟩
    rw [List.getD_eq_getElem?_getD, List.getElem?_eq_getElem h2] at h3
    simp only [Option.getD_some] at h3
    simp only [if_true]
    rw [List.count_set h2]
    have := List.count_pos_iff.2 (show false ∈ known by rw [← h3]; exact List.getElem_mem h2)
    simp [h3]
    omega
  · simp
def MoreOk (known : List Bool) (more : Bool) (y : List Bool × Bool) : Prop := y.1.count false ≤ known.count false ∧ (y.2 = true → more = true ∨ y.1.count false < known.count false) ∧ (y.2 = false → more = false ∧ y.1 = known)
theorem MoreOk.refl (known : List Bool) (more : Bool) : MoreOk known more (known, more) := ⟨Nat.le_refl _, .inl, fun h => ⟨h, rfl⟩⟩
theorem MoreOk.trans {known : List Bool} {more : Bool} {y z : List Bool × Bool} (h : MoreOk known more y) (k : MoreOk y.1 y.2 z) : MoreOk known more z := by
  obtain ⟨h1, h2, h3⟩ := h
  obtain ⟨k1, k2, k3⟩ := k
  refine ⟨by omega, fun hz => ?_, fun hz => ?_⟩
  · rcases k2 hz with h | h
    · rcases h2 h with h | h
      · exact .inl h
      · exact .inr (by omega)
    · exact .inr (by omega)
  · obtain ⟨a, b⟩ := k3 hz
    obtain ⟨c, d⟩ := h3 a
    exact ⟨c, by rw [b, d]⟩
theorem MoreOk.learn (known : List Bool) (more : Bool) (k : List UInt8) : MoreOk known more ((learnV known k).2, (learnV known k).1 || more) := by
  obtain ⟨h1, h2⟩ := learnV_cnt known k
  generalize learnV known k = l at *
  obtain ⟨b, k2⟩ := l
  simp only at h1 h2 ⊢
  cases b with
  | true => exact ⟨by simp at h1; simp only; omega, fun _ => .inr (by simp at h1; simp only; omega), by simp⟩
  | false =>
    have := h2 rfl
    subst this
    simp only [Bool.false_or]
    exact MoreOk.refl _ _
theorem MoreOk.learnL : ∀ (ks : List (List UInt8)) (known : List Bool) (more : Bool), MoreOk known more (learnL known more ks)
  | [], known, more => MoreOk.refl _ _
  | k :: ks, known, more => (MoreOk.learn known more k).trans (MoreOk.learnL ks _ _)
theorem MoreOk.step1 (ts : List Term) (i : Nat) (known : List Bool) (more : Bool) (x : Term) : MoreOk known more (step1 ts i known more x) := by
  unfold Cab.step1
  split
  · rename_i h
    have hi : i < known.length := by
      by_cases h' : i < known.length
      · exact h'
      · have := h.1; rw [List.getD_eq_getElem?_getD, List.getElem?_eq_none (by omega)] at this; cases this
    have h3 := h.1
    rw [List.getD_eq_getElem?_getD, List.getElem?_eq_getElem hi] at h3
    simp only [Option.getD_some] at h3
    have hc := List.count_pos_iff.2 (show false ∈ known by rw [← h3]; exact List.getElem_mem hi)
    have : (known.set i true).count false < known.count false := by
      rw [List.count_set hi]; simp [h3]; omega
    exact ⟨by simp only; omega, fun _ => .inr this, by simp⟩
  · exact MoreOk.refl _ _
theorem MoreOk.step2 (i : Nat) (known : List Bool) (more : Bool) (x : Term) : MoreOk known more (step2 i known more x) := by
  unfold Cab.step2
  split
  · exact MoreOk.learnL _ _ _
  · exact MoreOk.refl _ _
theorem MoreOk.roundG (ts : List Term) : ∀ (xs : List Term) (i : Nat) (known : List Bool) (more : Bool), MoreOk known more (roundG ts xs i known more)
  | [], _, _, _ => MoreOk.refl _ _
  | x :: xs, i, known, more => ((MoreOk.step1 ts i known more x).trans (MoreOk.step2 i _ _ x)).trans (MoreOk.roundG ts xs _ _ _)
def learnS : List Bool → List (List UInt8) → List Bool
  | known, [] => known
  | known, k :: ks => learnS (learnV known k).2 ks
theorem learnS_len : ∀ (ks : List (List UInt8)) (known : List Bool), (learnS known ks).length = known.length
  | [], _ => rfl
  | k :: ks, known => by rw [learnS, learnS_len ks, learnV_len]
inductive Rounds (ts : List Term) : List Bool → List Bool → Prop
  | refl (k) : Rounds ts k k
  | step (k k') : Rounds ts k k' → Rounds ts k (roundV ts k').1
structure FolOk (ts : List Term) (seen : List (List UInt8)) (K : List Bool) : Prop where
  of : Rounds ts (learnS (List.replicate ts.length false) seen) K
  end_ : roundV ts K = (K, false)
theorem Rounds.len {ts : List Term} {a b : List Bool} (h : Rounds ts a b) : b.length = a.length := by
  induction h with
  | refl => rfl
  | step k' _ ih => unfold roundV; rw [roundG_len, ih]
theorem FolOk.len {ts : List Term} {seen : List (List UInt8)} {K : List Bool} (h : FolOk ts seen K) : K.length = ts.length := by rw [h.of.len, learnS_len, List.length_replicate]
def cloH (b : Nat) (l : Nat × Nat) : AV := .fnv (.func 30) [.ptr b l 0 []] []
theorem tgt_cloH (b : Nat) (l : Nat × Nat) (x : AV) : tgtA Go.Proofs.Tryd.prog .val [cloH b l, x] = some (30, [.ptr b l 0 [], x]) := by kernel_rfl
theorem mkfn_cloH (b : Nat) (l : Nat × Nat) : rdA Go.Proofs.Tryd.prog (fun _ => none) (.mkfn (.func 30) 1) [.ptr b l 0 []] = some (cloH b l) := by kernel_rfl
def FolK (H : List (Option Blk)) (ts : List Term) (seen : List (List UInt8)) (r : AV) (H' : List (Option Blk)) : Prop :=
  ∃ K f Vk L', FolOk ts seen K ∧ r = cloH f.b f.l ∧ H' = H ++ L' ∧ ∀ G : List (Option Blk), G.length = H.length → FcOk (G ++ L') f Vk K
set_option maxHeartbeats 64000000 in
theorem follow_sl {H : List (Option Blk)} {t : Tb} {V : Value} {ts : List Term} (hT : TbOk H t V ts) (hts : TsOk ts) {seen : List (List UInt8)} (hsl : seen.length < 100000) (h32 : ∀ k ∈ seen, k.length = 32) :
    XCall Go.Proofs.Tryd.prog 15 [.ptr t.b t.l 0 [], .sl 32 (klA seen)] H (FolK H ts seen) := by
  refine XCall.shape (j := t.j) (e := 100) (V := V) (esz := 3) (els := ts.map termA) (sl := 0) hT.hj fun hV => ?_
  have h418 := fc418_eq
  refine XCall.le ?_
  have lb := hT.lb
  have lj := hT.lj
  have lm := hT.lm
  have hlen := hts.len
  have htb := hT.hb
  have htj := hT.hj
  unfold tbk at htb
  unfold trk at htj
  refine XCall.of h418 rfl ?_; show AC.wp _ fb418 ⟨H.length, [.ptr t.b t.l 0 [], .sl 32 (klA seen)] ++ List.replicate (57 - 2) .any, H ++ List.replicate 57 none⟩ (fun x s => match x with | .exit _ => False | _ => ∃ s1, Le s s1 ∧ FinX [(.tmp 4)] s1 _); unfold fb418
  generalize hN : H.length = N at *
  have q1 : ∀ L k, (H ++ L)[N + k]? = L[k]? := fun L k => cat1 N H L k hN
  have q2 : ∀ L k x, (H ++ L).set (N + k) x = H ++ L.set k x := fun L k x => cat2 N H L k x hN
  have q6 : ∀ L, (H ++ L)[t.b]? = some (some (.box t.l 2 (.st [1, 1] [.own t.j V, .own t.m (.map (some t.r))]))) := fun L => by rw [cat4 N H L _ hN lb]; exact htb
  have q7 : ∀ L, (H ++ L)[t.j]? = some (some (.row 100 V 3 (ts.map termA) 0)) := fun L => by rw [cat4 N H L _ hN lj]; exact htj
  have hml : (ts.map termA).length = ts.length := List.length_map _
  refine wp_sr (by simp [push_cast]; exact rfl) (wp_sg ?_)
  refine areg_run 6 (by simp [push_cast, q6, q7, hml]; exact rfl) ?_
  refine areg_mk (n := ts.length) rfl rfl (by simp [maxLen]; omega) (by omega) fun Vk => ?_
  refine areg_run 1 (by simp [push_cast, q2]; exact rfl) ?_
  refine areg_bx rfl rfl fun l17 => areg_end (by simp [push_cast, q2]; exact rfl) ?_
  obtain ⟨f, hf⟩ : ∃ f : Fc, f = ⟨N + 17, l17, N + 15, t.b, t.l⟩ := ⟨_, rfl⟩
  have hFt : ∀ (kw : List Bool) (L : List (Option Blk)), kw.length = ts.length → L[15]? = some (some (frk Vk kw)) → L[17]? = some (some (.box l17 2 (.st [1, 1] [.ptr t.b t.l 0 [], .own (N + 15) Vk]))) → FtOk (H ++ L) f t V ts Vk kw := fun kw L hk e15 e17 => by
    subst hf
    exact ⟨⟨by rw [q1]; exact e17, by rw [q1]; exact e15, by rw [hk]; exact (hT.app L).tabX, by omega⟩, hT.app L, rfl, rfl, hk, by simp only; omega, by simp only; omega, by simp only; omega, by simp⟩
  have hko : ∀ (kw : List Bool) (L : List (Option Blk)), kOf (H ++ L) f Vk kw = H ++ L.set 15 (some (frk Vk kw)) := fun kw L => by subst hf; exact q2 L 15 _
  have frk1 : ∀ kw, frk Vk kw = .row 4 Vk 1 (kwA kw) 0 := fun _ => rfl
  refine wp_seq' (wp_seq' (wp_r (by simp [push_cast, klA_len]; exact rfl) ?_))
  refine wp_block' (wp_loop_m (fun (x : Nat × List Bool) => (⟨N, [.ptr t.b t.l 0 [], .sl 32 (klA seen), .any, .any, .lit .nilFunc, .ptr (N + 17) l17 0 []] ++ List.replicate 12 .any ++ [.sl 32 (klA seen), .lit (jn seen.length), .lit (jn x.1)] ++ List.replicate 36 .any, H ++ (List.replicate 15 none ++ [some (frk Vk x.2), none, some (.box l17 2 (.st [1, 1] [.ptr t.b t.l 0 [], .own (N + 15) Vk]))] ++ List.replicate 39 none)⟩ : AS))
    (fun x => seen.length - x.1) (fun x => learnS x.2 (seen.drop x.1) = learnS (List.replicate ts.length false) seen ∧ x.1 ≤ seen.length ∧ x.2.length = ts.length) (0, List.replicate ts.length false) (Le.mk rfl (by simp [leT]) ?_) ⟨rfl, by simp, by simp⟩ ?_)
  · exact leH_app (leH_refl _) (by simp [leH, frk1, kwA])
  rintro ⟨i, kw⟩ ⟨hI, hi, hkl⟩
  simp only at hI hi hkl ⊢
  by_cases hlt : i < seen.length
  · obtain ⟨u, hu⟩ : ∃ u, seen[i]? = some u := ⟨_, List.getElem?_eq_getElem hlt⟩
    have hdrop : seen.drop i = u :: seen.drop (i + 1) := by
      rw [List.drop_eq_getElem_cons hlt]
      rw [List.getElem?_eq_getElem hlt] at hu
      rw [Option.some.inj hu]
    rw [hdrop, learnS] at hI
    have hu32 := h32 u (List.mem_of_getElem? hu)
    have j1 : (klA seen)[i]? = some (keyA u) := by rw [klA_get, hu]; rfl
    have j2 : ∀ h, (klA seen)[i]'h = keyA u := fun h => by rw [List.getElem?_eq_getElem h] at j1; exact Option.some.inj j1
    have j3 : i + 1 < 9223372036854775808 := by omega
    have cl := fun L e15 e17 => learn_call (hFt kw L hkl e15 e17).fc hu32
    have hl4 := learnV_len kw u
    generalize learnV kw u = lv at *
    obtain ⟨b5, k5⟩ := lv
    simp only at hI hl4 cl
    have hfb : f.b = N + 17 := by rw [hf]
    have hfl : f.l = l17 := by rw [hf]
    rw [hfb, hfl] at cl
    refine wp_sr (by simp [push_cast, hlt]; exact rfl) (wp_seq' (wp_cond_t (by simp [AS.ev]) (wp_skip' ?_)))
    refine wp_seq' (wp_block' (wp_sg ?_))
    refine areg_run 2 (by simp [push_cast, j1, j2, hlt, klA_len]; exact rfl) ?_
    refine areg_al' zk_eq.symm fun l7 => areg_end (by simp [push_cast, q1, q2, hu32]; exact rfl) ?_
    refine wp_rg ?_
    refine areg_run 2 (by simp [push_cast, q1, hu32]; exact rfl) ?_
    refine areg_xc rfl (cl _ rfl rfl) ⟨_, _, rfl, rfl⟩ ?_
    rintro _ _ ⟨rfl, rfl⟩
    rw [hko]
    refine areg_end (by simp [push_cast]; exact rfl) ?_
    refine wp_r (by simp [push_cast, j3]; exact rfl) ?_
    exact Exists.intro (i + 1, k5) ⟨⟨hI, by omega, by simp only; omega⟩, by simp only; omega, Le.mk rfl (by simp [leT]) (leH_app (leH_refl _) (by simp [leH]))⟩
  have hin : i = seen.length := by omega
  subst hin
  rw [List.drop_length, learnS] at hI
  refine wp_sr (by simp [push_cast]; exact rfl) (wp_seq' (wp_cond_f (by simp [AS.ev]) (wp_exit' (if_hit rfl ?_))))
  refine wp_seqL (wp_block' (wp_loop_m (fun kw : List Bool => (⟨N, [.ptr t.b t.l 0 [], .sl 32 (klA seen), .any, .any, .lit .nilFunc, .ptr (N + 17) l17 0 []] ++ List.replicate 51 .any, H ++ (List.replicate 15 none ++ [some (frk Vk kw), none, some (.box l17 2 (.st [1, 1] [.ptr t.b t.l 0 [], .own (N + 15) Vk]))] ++ List.replicate 39 none)⟩ : AS))
    (fun kw => kw.count false) (fun kw => Rounds ts (learnS (List.replicate ts.length false) seen) kw) kw (Le.mk rfl (by simp [leT]) (leH_app (leH_refl _) (by simp [leH]))) (by rw [hI]; exact .refl _) ?_))
  clear hI hkl
  clear kw
  intro kw hR
  have hkl : kw.length = ts.length := by rw [hR.len, learnS_len, List.length_replicate]
  simp only
  have cr := fun L e15 e17 => round_call (hFt kw L hkl e15 e17) hts
  have hstep := Rounds.step _ _ hR
  have hmo : MoreOk kw false (roundV ts kw) := MoreOk.roundG ts ts 0 kw false
  have hrl : (roundV ts kw).1.length = kw.length := roundG_len ts ts 0 kw false
  generalize hrv : roundV ts kw = rv at *
  obtain ⟨k6, b6⟩ := rv
  obtain ⟨m1, m2, m3⟩ := hmo
  simp only at m1 m2 m3 cr hstep hrl
  have hfb : f.b = N + 17 := by rw [hf]
  have hfl : f.l = l17 := by rw [hf]
  rw [hfb, hfl] at cr
  refine wp_seq' (wp_seq' (wp_rg ?_))
  refine areg_run 1 (by simp [push_cast]; exact rfl) ?_
  refine areg_xc rfl (cr _ rfl rfl) ⟨_, _, rfl, rfl⟩ ?_
  rintro _ _ ⟨rfl, rfl⟩
  rw [hko]
  refine areg_end (by simp [push_cast]; exact rfl) ?_
  cases b6 with
  | true =>
    refine wp_cond_t (by simp [AS.ev]) (wp_skip' (wp_block' (wp_skip' ?_)))
    refine Exists.intro k6 ⟨hstep, ?_, Le.mk rfl (by simp [leT]) (leH_app (leH_refl _) (by simp [leH]))⟩
    rcases m2 rfl with h | h
    · cases h
    · exact h
  | false =>
    obtain ⟨_, hkk⟩ := m3 rfl
    subst hkk
    refine wp_cond_f (by simp [AS.ev]) (wp_exit' (if_hit rfl ?_))
    refine ⟨_, Le.refl _, ?_⟩
    have hfo : FolOk ts seen k6 := ⟨hR, hrv⟩
    have hfin : ∀ (x8 : AV) (l50 : Nat × Nat), LenX [] x8 ts.length → FolK H ts seen (cloH (N + 17) l17) (H ++ (List.replicate 15 none ++ [some (frk Vk k6), none, some (.box l17 2 (.st [1, 1] [.ptr (N + 50) l50 0 [], .own (N + 15) Vk]))] ++ List.replicate 32 none ++ [some (.box l50 2 (.st [1, 1] [x8, .own t.m (.map (some t.r))]))])) := fun x8 l50 h8 => by
      refine ⟨k6, ⟨N + 17, l17, N + 15, N + 50, l50⟩, Vk, _, hfo, rfl, rfl, fun G hG => ?_⟩
      have e := fun k => cat1 N G (List.replicate 15 none ++ [some (frk Vk k6), none, some (.box l17 2 (.st [1, 1] [.ptr (N + 50) l50 0 [], .own (N + 15) Vk]))] ++ List.replicate 32 none ++ [some (.box l50 2 (.st [1, 1] [x8, .own t.m (.map (some t.r))]))]) k (by omega)
      refine ⟨by rw [e]; rfl, by rw [e]; rfl, ⟨x8, .own t.m (.map (some t.r)), by rw [e]; rfl, ?_⟩, by omega⟩
      rw [hkl]
      rcases h8 with ⟨j, V, els, sl, _, h, _⟩ | h | h
      · simp at h
      · exact .inr (.inl h)
      · exact .inr (.inr h)
    have hfin2 : ∀ (x8 : AV) (l50 : Nat × Nat) (R : List (Option Blk)) (s : AS), LenX [] x8 ts.length → RVal s (.tmp 4) = some (cloH (N + 17) l17) → s.hp = H ++ (List.replicate 15 none ++ [some (frk Vk k6), none, some (.box l17 2 (.st [1, 1] [.ptr (N + 50) l50 0 [], .own (N + 15) Vk]))] ++ List.replicate 32 none ++ [some (.box l50 2 (.st [1, 1] [x8, .own t.m (.map (some t.r))]))]) ++ R → ∃ s1, Le s s1 ∧ FinX [RV.tmp 4] s1 fun r H' => ∃ r' A, RelLe r r' ∧ r' ≠ .any ∧ HpLe H' A ∧ FolK H ts seen r' A := fun x8 l50 R s h8 hr hR =>
      ⟨s, Le.refl _, finX1 hr (by simp [cloH]) ⟨_, _, RelLe.refl _, by simp [cloH], by rw [hR]; exact HpLe.trim _ _, hfin x8 l50 h8⟩⟩
    refine wp_sg ?_
    have n50 : ¬ t.b = N + 50 := by omega
    have n50j : ¬ t.j = N + 50 := by omega
    refine areg_run 14 (by simp [push_cast, q6, q7, hml, n50, n50j]; exact rfl) ?_
    rcases hV with ⟨rfl, hnil⟩ | ⟨g, cc, hVs, hcc⟩
    · have hz : ts.length = 0 := by rw [← hml, hnil]; rfl
      refine areg_rdp (us := [.own t.j (.slice none 0 0), .lit (jn ts.length), .lit (jn ts.length)]) (v := .lit (.slice none 0 0)) rfl (by rw [hz]; simp [rdA, rdB, jn]) ?_
      refine areg_run 5 (by simp [push_cast, q6, n50]; exact rfl) ?_
      refine areg_bx rfl rfl fun l50 => areg_end (by simp [push_cast, q2]; exact rfl) ?_
      refine wp_sr (by simp [push_cast, q1, q2]; exact rfl) ?_
      refine wp_sg ?_
      refine areg_run 1 (by simp [push_cast]; exact rfl) ?_
      refine areg_rdp (us := [.ptr (N + 17) l17 0 []]) rfl (mkfn_cloH _ _) ?_
      refine areg_end (by simp [push_cast]; exact rfl) (wp_ret' ?_)
      exact hfin2 (.lit (.slice none 0 0)) l50 (List.replicate 6 none) _ (.inr (.inr ⟨rfl, hz⟩)) (by simp [RVal, AS.ev, AS.coe, cloH]) (by simp)
    · rw [hml] at hVs hcc
      have hcap : rdA Go.Proofs.Tryd.prog (fun _ => none) (.cap3 3) [.own t.j V, .lit (jn ts.length), .lit (jn ts.length)] = some (.view 0 (g, 0) 0 [] 3 0 ts.length ts.length) := by
        subst hVs
        simp [rdA, rdB, jn, hcc]
      refine areg_rdp (us := [.own t.j V, .lit (jn ts.length), .lit (jn ts.length)]) (v := .view 0 (g, 0) 0 [] 3 0 ts.length ts.length) rfl hcap ?_
      refine areg_run 5 (by simp [push_cast, q6, n50]; exact rfl) ?_
      refine areg_bx rfl rfl fun l50 => areg_end (by simp [push_cast, q2]; exact rfl) ?_
      refine wp_sr (by simp [push_cast, q1, q2]; exact rfl) ?_
      refine wp_sg ?_
      refine areg_run 1 (by simp [push_cast]; exact rfl) ?_
      refine areg_rdp (us := [.ptr (N + 17) l17 0 []]) rfl (mkfn_cloH _ _) ?_
      refine areg_end (by simp [push_cast]; exact rfl) (wp_ret' ?_)
      exact hfin2 (.view 0 (g, 0) 0 [] 3 0 ts.length ts.length) l50 (List.replicate 6 none) _ (.inr (.inl ⟨_, _, _, _, _, _, rfl⟩)) (by simp [RVal, AS.ev, AS.coe, cloH]) (by simp)
set_option maxHeartbeats 64000000 in
theorem follow_own {H : List (Option Blk)} {t : Tb} {V : Value} {ts : List Term} (hT : TbOk H t V ts) (hts : TsOk ts) {seen : List (List UInt8)} (hsl : seen.length < 100000) (h32 : ∀ k ∈ seen, k.length = 32) {c sl : Nat} {Vc : Value} (hc : H[c]? = some (some (.row 29 Vc 32 (klA seen) sl))) :
    XCall Go.Proofs.Tryd.prog 15 [.ptr t.b t.l 0 [], .own c Vc] H (FolK H ts seen) := by
  refine XCall.shape (j := t.j) (e := 100) (V := V) (esz := 3) (els := ts.map termA) (sl := 0) hT.hj fun hV => ?_
  have h418 := fc418_eq
  refine XCall.le ?_
  have lb := hT.lb
  have lj := hT.lj
  have lm := hT.lm
  have hlen := hts.len
  have htb := hT.hb
  have htj := hT.hj
  unfold tbk at htb
  unfold trk at htj
  refine XCall.of h418 rfl ?_; show AC.wp _ fb418 ⟨H.length, [.ptr t.b t.l 0 [], .own c Vc] ++ List.replicate (57 - 2) .any, H ++ List.replicate 57 none⟩ (fun x s => match x with | .exit _ => False | _ => ∃ s1, Le s s1 ∧ FinX [(.tmp 4)] s1 _); unfold fb418
  generalize hN : H.length = N at *
  have lc := (List.getElem?_eq_some_iff.1 hc).1
  have qc : ∀ L, (H ++ L)[c]? = some (some (.row 29 Vc 32 (klA seen) sl)) := fun L => by rw [cat4 N H L _ hN (by omega)]; exact hc
  have q1 : ∀ L k, (H ++ L)[N + k]? = L[k]? := fun L k => cat1 N H L k hN
  have q2 : ∀ L k x, (H ++ L).set (N + k) x = H ++ L.set k x := fun L k x => cat2 N H L k x hN
  have q6 : ∀ L, (H ++ L)[t.b]? = some (some (.box t.l 2 (.st [1, 1] [.own t.j V, .own t.m (.map (some t.r))]))) := fun L => by rw [cat4 N H L _ hN lb]; exact htb
  have q7 : ∀ L, (H ++ L)[t.j]? = some (some (.row 100 V 3 (ts.map termA) 0)) := fun L => by rw [cat4 N H L _ hN lj]; exact htj
  have hml : (ts.map termA).length = ts.length := List.length_map _
  refine wp_sr (by simp [push_cast]; exact rfl) (wp_sg ?_)
  refine areg_run 6 (by simp [push_cast, q6, q7, hml]; exact rfl) ?_
  refine areg_mk (n := ts.length) rfl rfl (by simp [maxLen]; omega) (by omega) fun Vk => ?_
  refine areg_run 1 (by simp [push_cast, q2]; exact rfl) ?_
  refine areg_bx rfl rfl fun l17 => areg_end (by simp [push_cast, q2]; exact rfl) ?_
  obtain ⟨f, hf⟩ : ∃ f : Fc, f = ⟨N + 17, l17, N + 15, t.b, t.l⟩ := ⟨_, rfl⟩
  have hFt : ∀ (kw : List Bool) (L : List (Option Blk)), kw.length = ts.length → L[15]? = some (some (frk Vk kw)) → L[17]? = some (some (.box l17 2 (.st [1, 1] [.ptr t.b t.l 0 [], .own (N + 15) Vk]))) → FtOk (H ++ L) f t V ts Vk kw := fun kw L hk e15 e17 => by
    subst hf
    exact ⟨⟨by rw [q1]; exact e17, by rw [q1]; exact e15, by rw [hk]; exact (hT.app L).tabX, by omega⟩, hT.app L, rfl, rfl, hk, by simp only; omega, by simp only; omega, by simp only; omega, by simp⟩
  have hko : ∀ (kw : List Bool) (L : List (Option Blk)), kOf (H ++ L) f Vk kw = H ++ L.set 15 (some (frk Vk kw)) := fun kw L => by subst hf; exact q2 L 15 _
  have frk1 : ∀ kw, frk Vk kw = .row 4 Vk 1 (kwA kw) 0 := fun _ => rfl
  refine wp_seq' (wp_seq' (wp_r (by simp [push_cast, qc, klA_len]; exact rfl) ?_))
  refine wp_block' (wp_loop_m (fun (x : Nat × List Bool) => (⟨N, [.ptr t.b t.l 0 [], .own c Vc, .any, .any, .lit .nilFunc, .ptr (N + 17) l17 0 []] ++ List.replicate 12 .any ++ [.own c Vc, .lit (jn seen.length), .lit (jn x.1)] ++ List.replicate 36 .any, H ++ (List.replicate 15 none ++ [some (frk Vk x.2), none, some (.box l17 2 (.st [1, 1] [.ptr t.b t.l 0 [], .own (N + 15) Vk]))] ++ List.replicate 39 none)⟩ : AS))
    (fun x => seen.length - x.1) (fun x => learnS x.2 (seen.drop x.1) = learnS (List.replicate ts.length false) seen ∧ x.1 ≤ seen.length ∧ x.2.length = ts.length) (0, List.replicate ts.length false) (Le.mk rfl (by simp [leT]) ?_) ⟨rfl, by simp, by simp⟩ ?_)
  · exact leH_app (leH_refl _) (by simp [leH, frk1, kwA])
  rintro ⟨i, kw⟩ ⟨hI, hi, hkl⟩
  simp only at hI hi hkl ⊢
  by_cases hlt : i < seen.length
  · obtain ⟨u, hu⟩ : ∃ u, seen[i]? = some u := ⟨_, List.getElem?_eq_getElem hlt⟩
    have hdrop : seen.drop i = u :: seen.drop (i + 1) := by
      rw [List.drop_eq_getElem_cons hlt]
      rw [List.getElem?_eq_getElem hlt] at hu
      rw [Option.some.inj hu]
    rw [hdrop, learnS] at hI
    have hu32 := h32 u (List.mem_of_getElem? hu)
    have j1 : (klA seen)[i]? = some (keyA u) := by rw [klA_get, hu]; rfl
    have j2 : ∀ h, (klA seen)[i]'h = keyA u := fun h => by rw [List.getElem?_eq_getElem h] at j1; exact Option.some.inj j1
    have j3 : i + 1 < 9223372036854775808 := by omega
    have cl := fun L e15 e17 => learn_call (hFt kw L hkl e15 e17).fc hu32
    have hl4 := learnV_len kw u
    generalize learnV kw u = lv at *
    obtain ⟨b5, k5⟩ := lv
    simp only at hI hl4 cl
    have hfb : f.b = N + 17 := by rw [hf]
    have hfl : f.l = l17 := by rw [hf]
    rw [hfb, hfl] at cl
    refine wp_sr (by simp [push_cast, hlt]; exact rfl) (wp_seq' (wp_cond_t (by simp [AS.ev]) (wp_skip' ?_)))
    refine wp_seq' (wp_block' (wp_sg ?_))
    refine areg_run 2 (by simp [push_cast, qc, j1, j2, hlt, klA_len]; exact rfl) ?_
    refine areg_al' zk_eq.symm fun l7 => areg_end (by simp [push_cast, q1, q2, hu32]; exact rfl) ?_
    refine wp_rg ?_
    refine areg_run 2 (by simp [push_cast, q1, hu32]; exact rfl) ?_
    refine areg_xc rfl (cl _ rfl rfl) ⟨_, _, rfl, rfl⟩ ?_
    rintro _ _ ⟨rfl, rfl⟩
    rw [hko]
    refine areg_end (by simp [push_cast]; exact rfl) ?_
    refine wp_r (by simp [push_cast, j3]; exact rfl) ?_
    exact Exists.intro (i + 1, k5) ⟨⟨hI, by omega, by simp only; omega⟩, by simp only; omega, Le.mk rfl (by simp [leT]) (leH_app (leH_refl _) (by simp [leH]))⟩
  have hin : i = seen.length := by omega
  subst hin
  rw [List.drop_length, learnS] at hI
  refine wp_sr (by simp [push_cast]; exact rfl) (wp_seq' (wp_cond_f (by simp [AS.ev]) (wp_exit' (if_hit rfl ?_))))
  refine wp_seqL (wp_block' (wp_loop_m (fun kw : List Bool => (⟨N, [.ptr t.b t.l 0 [], .own c Vc, .any, .any, .lit .nilFunc, .ptr (N + 17) l17 0 []] ++ List.replicate 51 .any, H ++ (List.replicate 15 none ++ [some (frk Vk kw), none, some (.box l17 2 (.st [1, 1] [.ptr t.b t.l 0 [], .own (N + 15) Vk]))] ++ List.replicate 39 none)⟩ : AS))
    (fun kw => kw.count false) (fun kw => Rounds ts (learnS (List.replicate ts.length false) seen) kw) kw (Le.mk rfl (by simp [leT]) (leH_app (leH_refl _) (by simp [leH]))) (by rw [hI]; exact .refl _) ?_))
  clear hI hkl
  clear kw
  intro kw hR
  have hkl : kw.length = ts.length := by rw [hR.len, learnS_len, List.length_replicate]
  simp only
  have cr := fun L e15 e17 => round_call (hFt kw L hkl e15 e17) hts
  have hstep := Rounds.step _ _ hR
  have hmo : MoreOk kw false (roundV ts kw) := MoreOk.roundG ts ts 0 kw false
  have hrl : (roundV ts kw).1.length = kw.length := roundG_len ts ts 0 kw false
  generalize hrv : roundV ts kw = rv at *
  obtain ⟨k6, b6⟩ := rv
  obtain ⟨m1, m2, m3⟩ := hmo
  simp only at m1 m2 m3 cr hstep hrl
  have hfb : f.b = N + 17 := by rw [hf]
  have hfl : f.l = l17 := by rw [hf]
  rw [hfb, hfl] at cr
  refine wp_seq' (wp_seq' (wp_rg ?_))
  refine areg_run 1 (by simp [push_cast]; exact rfl) ?_
  refine areg_xc rfl (cr _ rfl rfl) ⟨_, _, rfl, rfl⟩ ?_
  rintro _ _ ⟨rfl, rfl⟩
  rw [hko]
  refine areg_end (by simp [push_cast]; exact rfl) ?_
  cases b6 with
  | true =>
    refine wp_cond_t (by simp [AS.ev]) (wp_skip' (wp_block' (wp_skip' ?_)))
    refine Exists.intro k6 ⟨hstep, ?_, Le.mk rfl (by simp [leT]) (leH_app (leH_refl _) (by simp [leH]))⟩
    rcases m2 rfl with h | h
    · cases h
    · exact h
  | false =>
    obtain ⟨_, hkk⟩ := m3 rfl
    subst hkk
    refine wp_cond_f (by simp [AS.ev]) (wp_exit' (if_hit rfl ?_))
    refine ⟨_, Le.refl _, ?_⟩
    have hfo : FolOk ts seen k6 := ⟨hR, hrv⟩
    have hfin : ∀ (x8 : AV) (l50 : Nat × Nat), LenX [] x8 ts.length → FolK H ts seen (cloH (N + 17) l17) (H ++ (List.replicate 15 none ++ [some (frk Vk k6), none, some (.box l17 2 (.st [1, 1] [.ptr (N + 50) l50 0 [], .own (N + 15) Vk]))] ++ List.replicate 32 none ++ [some (.box l50 2 (.st [1, 1] [x8, .own t.m (.map (some t.r))]))])) := fun x8 l50 h8 => by
      refine ⟨k6, ⟨N + 17, l17, N + 15, N + 50, l50⟩, Vk, _, hfo, rfl, rfl, fun G hG => ?_⟩
      have e := fun k => cat1 N G (List.replicate 15 none ++ [some (frk Vk k6), none, some (.box l17 2 (.st [1, 1] [.ptr (N + 50) l50 0 [], .own (N + 15) Vk]))] ++ List.replicate 32 none ++ [some (.box l50 2 (.st [1, 1] [x8, .own t.m (.map (some t.r))]))]) k (by omega)
      refine ⟨by rw [e]; rfl, by rw [e]; rfl, ⟨x8, .own t.m (.map (some t.r)), by rw [e]; rfl, ?_⟩, by omega⟩
      rw [hkl]
      rcases h8 with ⟨j, V, els, sl, _, h, _⟩ | h | h
      · simp at h
      · exact .inr (.inl h)
      · exact .inr (.inr h)
    have hfin2 : ∀ (x8 : AV) (l50 : Nat × Nat) (R : List (Option Blk)) (s : AS), LenX [] x8 ts.length → RVal s (.tmp 4) = some (cloH (N + 17) l17) → s.hp = H ++ (List.replicate 15 none ++ [some (frk Vk k6), none, some (.box l17 2 (.st [1, 1] [.ptr (N + 50) l50 0 [], .own (N + 15) Vk]))] ++ List.replicate 32 none ++ [some (.box l50 2 (.st [1, 1] [x8, .own t.m (.map (some t.r))]))]) ++ R → ∃ s1, Le s s1 ∧ FinX [RV.tmp 4] s1 fun r H' => ∃ r' A, RelLe r r' ∧ r' ≠ .any ∧ HpLe H' A ∧ FolK H ts seen r' A := fun x8 l50 R s h8 hr hR =>
      ⟨s, Le.refl _, finX1 hr (by simp [cloH]) ⟨_, _, RelLe.refl _, by simp [cloH], by rw [hR]; exact HpLe.trim _ _, hfin x8 l50 h8⟩⟩
    refine wp_sg ?_
    have n50 : ¬ t.b = N + 50 := by omega
    have n50j : ¬ t.j = N + 50 := by omega
    refine areg_run 14 (by simp [push_cast, q6, q7, hml, n50, n50j]; exact rfl) ?_
    rcases hV with ⟨rfl, hnil⟩ | ⟨g, cc, hVs, hcc⟩
    · have hz : ts.length = 0 := by rw [← hml, hnil]; rfl
      refine areg_rdp (us := [.own t.j (.slice none 0 0), .lit (jn ts.length), .lit (jn ts.length)]) (v := .lit (.slice none 0 0)) rfl (by rw [hz]; simp [rdA, rdB, jn]) ?_
      refine areg_run 5 (by simp [push_cast, q6, n50]; exact rfl) ?_
      refine areg_bx rfl rfl fun l50 => areg_end (by simp [push_cast, q2]; exact rfl) ?_
      refine wp_sr (by simp [push_cast, q1, q2]; exact rfl) ?_
      refine wp_sg ?_
      refine areg_run 1 (by simp [push_cast]; exact rfl) ?_
      refine areg_rdp (us := [.ptr (N + 17) l17 0 []]) rfl (mkfn_cloH _ _) ?_
      refine areg_end (by simp [push_cast]; exact rfl) (wp_ret' ?_)
      exact hfin2 (.lit (.slice none 0 0)) l50 (List.replicate 6 none) _ (.inr (.inr ⟨rfl, hz⟩)) (by simp [RVal, AS.ev, AS.coe, cloH]) (by simp)
    · rw [hml] at hVs hcc
      have hcap : rdA Go.Proofs.Tryd.prog (fun _ => none) (.cap3 3) [.own t.j V, .lit (jn ts.length), .lit (jn ts.length)] = some (.view 0 (g, 0) 0 [] 3 0 ts.length ts.length) := by
        subst hVs
        simp [rdA, rdB, jn, hcc]
      refine areg_rdp (us := [.own t.j V, .lit (jn ts.length), .lit (jn ts.length)]) (v := .view 0 (g, 0) 0 [] 3 0 ts.length ts.length) rfl hcap ?_
      refine areg_run 5 (by simp [push_cast, q6, n50]; exact rfl) ?_
      refine areg_bx rfl rfl fun l50 => areg_end (by simp [push_cast, q2]; exact rfl) ?_
      refine wp_sr (by simp [push_cast, q1, q2]; exact rfl) ?_
      refine wp_sg ?_
      refine areg_run 1 (by simp [push_cast]; exact rfl) ?_
      refine areg_rdp (us := [.ptr (N + 17) l17 0 []]) rfl (mkfn_cloH _ _) ?_
      refine areg_end (by simp [push_cast]; exact rfl) (wp_ret' ?_)
      exact hfin2 (.view 0 (g, 0) 0 [] 3 0 ts.length ts.length) l50 (List.replicate 6 none) _ (.inr (.inl ⟨_, _, _, _, _, _, rfl⟩)) (by simp [RVal, AS.ev, AS.coe, cloH]) (by simp)
end Go.Cab
namespace Go.Cab
open Classical
theorem follow_at {H : List (Option Blk)} {t : Tb} {V0 : Value} {ts0 ts : List Term} (hh : TbOk H t V0 ts0) (hts : TsOk ts) (V : Value) {L : List (Option Blk)} {seen : List (List UInt8)} (hsl : seen.length < 100000) (h32 : ∀ k ∈ seen, k.length = 32) {c sl : Nat} {Vc : Value} (hc : (tbOf H t V ts ++ L)[c]? = some (some (.row 29 Vc 32 (klA seen) sl))) :
    XCall Go.Proofs.Tryd.prog 15 [.ptr t.b t.l 0 [], .own c Vc] (tbOf H t V ts ++ L) (FolK (tbOf H t V ts ++ L) ts seen) :=
  follow_own (hh.at V ts L) hts hsl h32 hc
theorem follow_sl_at {H : List (Option Blk)} {t : Tb} {V0 : Value} {ts0 ts : List Term} (hh : TbOk H t V0 ts0) (hts : TsOk ts) (V : Value) (L : List (Option Blk)) {seen : List (List UInt8)} (hsl : seen.length < 100000) (h32 : ∀ k ∈ seen, k.length = 32) :
    XCall Go.Proofs.Tryd.prog 15 [.ptr t.b t.l 0 [], .sl 32 (klA seen)] (tbOf H t V ts ++ L) (FolK (tbOf H t V ts ++ L) ts seen) :=
  follow_sl (hh.at V ts L) hts hsl h32
theorem FolK.ex {H : List (Option Blk)} {ts : List Term} {seen : List (List UInt8)} (h : ∃ K, FolOk ts seen K) (hn : ts.length < 100000) : ∃ r H', FolK H ts seen r H' := by
  obtain ⟨K, hK⟩ := h
  refine ⟨_, _, K, ⟨H.length, (0, 0), H.length + 1, H.length + 2, (0, 0)⟩, .slice none 0 0, [some (fbk ⟨H.length, (0, 0), H.length + 1, H.length + 2, (0, 0)⟩ (.slice none 0 0)), some (frk (.slice none 0 0) K), some (.box (0, 0) 2 (.st [1, 1] [.view 0 (0, 0) 0 [] 3 0 ts.length ts.length, .any]))], hK, rfl, rfl, fun G hG => ?_⟩
  have e := fun k => cat1 H.length G [some (fbk ⟨H.length, (0, 0), H.length + 1, H.length + 2, (0, 0)⟩ (.slice none 0 0)), some (frk (.slice none 0 0) K), some (.box (0, 0) 2 (.st [1, 1] [.view 0 (0, 0) 0 [] 3 0 ts.length ts.length, .any]))] k hG
  refine ⟨?_, ?_, ⟨.view 0 (0, 0) 0 [] 3 0 ts.length ts.length, .any, ?_, .inr (.inl ⟨_, _, _, _, _, _, by rw [hK.len]⟩)⟩, by rw [hK.len]; exact hn⟩
  · have := e 0
    rw [Nat.add_zero] at this
    exact this.trans rfl
  · rw [e]; rfl
  · rw [e]; rfl
theorem Fol_ex (ts : List Term) (seen : List (List UInt8)) : ∃ K, FolOk ts seen K := by
  have key : ∀ (n : Nat) (k : List Bool), k.count false ≤ n → Rounds ts (learnS (List.replicate ts.length false) seen) k → ∃ K, FolOk ts seen K := by
    intro n
    induction n with
    | zero =>
      intro k hk hR
      have hm := MoreOk.roundG ts ts 0 k false
      obtain ⟨_, m2, m3⟩ := hm
      cases hb : (roundG ts ts 0 k false).2 with
      | true => rcases m2 hb with h | h
                · cases h
                · omega
      | false => exact ⟨k, hR, Prod.ext (m3 hb).2 hb⟩
    | succ n ih =>
      intro k hk hR
      have hm := MoreOk.roundG ts ts 0 k false
      obtain ⟨_, m2, m3⟩ := hm
      cases hb : (roundG ts ts 0 k false).2 with
      | true => rcases m2 hb with h | h
                · cases h
                · exact ih (roundG ts ts 0 k false).1 (by omega) (.step _ _ hR)
      | false => exact ⟨k, hR, Prod.ext (m3 hb).2 hb⟩
  exact key _ _ (Nat.le_refl _) (.refl _)
theorem FolK.at {T M L' : List (Option Blk)} {N n m : Nat} {f : Fc} {Vk : Value} {K : List Bool} (h : ∀ G : List (Option Blk), G.length = m → FcOk (G ++ L') f Vk K) (hm : m = N + n) (hT : T.length = N) (hn : n ≤ M.length) (hd : M.drop n = L') : FcOk (T ++ M) f Vk K := by
  have := h (T ++ M.take n) (by rw [List.length_append, List.length_take, Nat.min_eq_left hn]; omega)
  rwa [List.append_assoc, ← hd, List.take_append_drop] at this
end Go.Cab
namespace Go.Cab
open Classical
def Kn (known : List Bool) (i : Nat) : Prop := known.getD i false = true
def KLe (a b : List Bool) : Prop := a.length = b.length ∧ ∀ i, Kn a i → Kn b i
theorem KLe.refl (a : List Bool) : KLe a a := ⟨rfl, fun _ h => h⟩
theorem KLe.trans {a b c : List Bool} (h : KLe a b) (k : KLe b c) : KLe a c := ⟨h.1.trans k.1, fun i x => k.2 i (h.2 i x)⟩
theorem Kn.lt {known : List Bool} {i : Nat} (h : Kn known i) : i < known.length := by
  by_cases hi : i < known.length
  · exact hi
  · unfold Kn at h; rw [List.getD_eq_getElem?_getD, List.getElem?_eq_none (by omega)] at h; cases h
theorem Kn.set {known : List Bool} {i j : Nat} (h : Kn (known.set i true) j) : j = i ∨ Kn known j := by
  by_cases e : i = j
  · exact .inl e.symm
  · refine .inr ?_
    unfold Kn at *
    rw [List.getD_eq_getElem?_getD, List.getElem?_set_ne e] at h
    rwa [List.getD_eq_getElem?_getD]
theorem Kn.of_set {known : List Bool} {i j : Nat} (h : Kn known j) : Kn (known.set i true) j := by
  unfold Kn at *
  rw [List.getD_eq_getElem?_getD, List.getElem?_set]
  split
  · split
    · rfl
    · rename_i e h'; subst e; exact absurd (Kn.lt h) h'
  · rwa [← List.getD_eq_getElem?_getD]
theorem Kn.set_self {known : List Bool} {i : Nat} (h : i < known.length) : Kn (known.set i true) i := by
  unfold Kn; rw [List.getD_eq_getElem?_getD, List.getElem?_set_self h]; rfl
theorem hasV_mono {a b : List Bool} (h : KLe a b) {k : List UInt8} (hk : hasV a k = true) : hasV b k = true := by
  unfold hasV at *
  split
  · rename_i e; rw [if_pos e] at hk; exact h.2 _ hk
  · rfl
theorem pubV_mono {a b : List Bool} (h : KLe a b) {ts : List Term} {k : List UInt8} (hk : pubV ts a k = true) : pubV ts b k = true := by
  unfold pubV at *
  simp only [Bool.or_eq_true] at hk ⊢
  rcases hk with hk | hk
  · exact .inl (hasV_mono h hk)
  · refine .inr ?_
    cases hf : findT (shapeT (pubT k)) ts 0 with
    | none => rw [hf] at hk; cases hk
    | some n => rw [hf] at hk; exact h.2 n hk
theorem madeV_mono {a b : List Bool} (h : KLe a b) {ts : List Term} {x : Term} (hk : madeV ts a x = true) : madeV ts b x = true := by
  unfold madeV at *
  split
  · rename_i e; rw [if_pos e] at hk; cases hk
  · rename_i e
    rw [if_neg e] at hk
    split
    · rename_i e4
      rw [if_pos e4] at hk
      simp only [Bool.or_eq_true, Bool.and_eq_true] at hk ⊢
      exact hk.imp (fun x => ⟨hasV_mono h x.1, pubV_mono h x.2⟩) (fun x => ⟨hasV_mono h x.1, pubV_mono h x.2⟩)
    · rename_i e4
      rw [if_neg e4] at hk
      rw [List.all_eq_true] at hk ⊢
      exact fun k hm => hasV_mono h (hk k hm)
structure Clo (ts : List Term) (S : List Bool) : Prop where
  len : S.length = ts.length
  made : ∀ i x, ts[i]? = some x → madeV ts S x = true → Kn S i
  opens : ∀ i x, ts[i]? = some x → x.kind = 6 → Kn S i → hasV S (x.keys.getD 0 zk) = true → ∀ k ∈ x.keys.drop 2, nameK (be32 k) = k → be32 k < ts.length → Kn S (be32 k)
section
variable {ts : List Term} {S : List Bool}
theorem learn_in {known : List Bool} (hle : KLe known S) {k : List UInt8} (hk : nameK (be32 k) = k → be32 k < S.length → Kn S (be32 k)) : KLe (learnV known k).2 S := by
  unfold learnV
  split
  · rename_i h
    obtain ⟨h1, h2, _⟩ := h
    refine ⟨by simp [hle.1], fun i hi => ?_⟩
    rcases Kn.set hi with rfl | hi
    · exact hk h1 (by rw [← hle.1]; exact h2)
    · exact hle.2 i hi
  · exact hle
theorem learnL_in : ∀ (ks : List (List UInt8)) {known : List Bool} {more : Bool}, KLe known S → (∀ k ∈ ks, nameK (be32 k) = k → be32 k < S.length → Kn S (be32 k)) → KLe (learnL known more ks).1 S
  | [], _, _, h, _ => h
  | k :: ks, _, _, h, hk => learnL_in ks (learn_in h (hk k (by simp))) (fun u hu => hk u (by simp [hu]))
theorem learnS_in : ∀ (ks : List (List UInt8)) {known : List Bool}, KLe known S → (∀ k ∈ ks, nameK (be32 k) = k → be32 k < S.length → Kn S (be32 k)) → KLe (learnS known ks) S
  | [], _, h, _ => h
  | k :: ks, _, h, hk => learnS_in ks (learn_in h (hk k (by simp))) (fun u hu => hk u (by simp [hu]))
theorem step_in (hc : Clo ts S) {i : Nat} {x : Term} (hx : ts[i]? = some x) {known : List Bool} {more : Bool} (hle : KLe known S) : KLe (stepV ts i known more x).1 S := by
  have h1 : KLe (step1 ts i known more x).1 S := by
    unfold step1
    split
    · rename_i h
      refine ⟨by simp [hle.1], fun j hj => ?_⟩
      rcases Kn.set hj with rfl | hj
      · exact hc.made _ x hx (madeV_mono hle h.2)
      · exact hle.2 j hj
    · exact hle
  unfold stepV step2
  split
  · rename_i h
    obtain ⟨h2, h3, h4⟩ := h
    exact learnL_in _ h1 fun k hk e1 e2 => hc.opens i x hx h3 (h1.2 i h2) (hasV_mono h1 h4) k hk e1 (by rw [← hc.len]; exact e2)
  · exact h1
theorem roundG_in (hc : Clo ts S) : ∀ (xs : List Term) (i : Nat) (known : List Bool) (more : Bool), (∀ j x, xs[j]? = some x → ts[i + j]? = some x) → KLe known S → KLe (roundG ts xs i known more).1 S
  | [], _, _, _, _, h => h
  | x :: xs, i, known, more, hx, h => by
    rw [roundG]
    exact roundG_in hc xs (i + 1) _ _ (fun j y hy => by rw [show i + 1 + j = i + (j + 1) by omega]; exact hx (j + 1) y (by simpa using hy)) (step_in hc (by simpa using hx 0 x rfl) h)
theorem Rounds.in (hc : Clo ts S) {a b : List Bool} (h : Rounds ts a b) (ha : KLe a S) : KLe b S := by
  induction h with
  | refl => exact ha
  | step k' _ ih => exact roundG_in hc ts 0 _ _ (fun j x h => by simpa using h) ih
theorem FolOk.in {seen : List (List UInt8)} {K : List Bool} (h : FolOk ts seen K) (hc : Clo ts S) (hs : ∀ k ∈ seen, nameK (be32 k) = k → be32 k < ts.length → Kn S (be32 k)) : KLe K S := by
  refine h.of.in hc (learnS_in seen ⟨by rw [List.length_replicate, hc.len], fun i hi => ?_⟩ (fun k hk e1 e2 => hs k hk e1 (by rw [← hc.len]; exact e2)))
  unfold Kn at hi
  rw [List.getD_eq_getElem?_getD, List.getElem?_replicate] at hi
  split at hi <;> simp at hi
end
theorem learn_up (known : List Bool) (k : List UInt8) : KLe known (learnV known k).2 := by
  unfold learnV
  split
  · exact ⟨by simp, fun i h => h.of_set⟩
  · exact KLe.refl _
theorem learnL_up : ∀ (ks : List (List UInt8)) (known : List Bool) (more : Bool), KLe known (learnL known more ks).1
  | [], _, _ => KLe.refl _
  | k :: ks, known, more => (learn_up known k).trans (learnL_up ks _ _)
theorem learnS_up : ∀ (ks : List (List UInt8)) (known : List Bool), KLe known (learnS known ks)
  | [], _ => KLe.refl _
  | k :: ks, known => (learn_up known k).trans (learnS_up ks _)
theorem step_up (ts : List Term) (i : Nat) (known : List Bool) (more : Bool) (x : Term) : KLe known (stepV ts i known more x).1 := by
  have h1 : KLe known (step1 ts i known more x).1 := by
    unfold step1; split
    · exact ⟨by simp, fun i h => h.of_set⟩
    · exact KLe.refl _
  refine h1.trans ?_
  unfold stepV step2
  split
  · exact learnL_up _ _ _
  · exact KLe.refl _
theorem roundG_up (ts : List Term) : ∀ (xs : List Term) (i : Nat) (known : List Bool) (more : Bool), KLe known (roundG ts xs i known more).1
  | [], _, _, _ => KLe.refl _
  | x :: xs, i, known, more => (step_up ts i known more x).trans (roundG_up ts xs _ _ _)
theorem Rounds.up {ts : List Term} {a b : List Bool} (h : Rounds ts a b) : KLe a b := by
  induction h with
  | refl => exact KLe.refl _
  | step k' _ ih => exact ih.trans (roundG_up ts ts 0 _ _)
theorem learn_has {known : List Bool} {k : List UInt8} (h1 : nameK (be32 k) = k) (h2 : be32 k < known.length) : Kn (learnV known k).2 (be32 k) := by
  unfold learnV
  by_cases h : known.getD (be32 k) true = false
  · rw [if_pos ⟨h1, h2, h⟩]; exact Kn.set_self h2
  · rw [if_neg (fun x => h x.2.2)]
    unfold Kn
    rw [List.getD_eq_getElem?_getD, List.getElem?_eq_getElem h2] at h ⊢
    simpa using h
theorem learnS_has (ks : List (List UInt8)) : ∀ {known : List Bool} {k : List UInt8}, k ∈ ks → nameK (be32 k) = k → be32 k < known.length → Kn (learnS known ks) (be32 k) := by
  induction ks with
  | nil => intro _ _ hk; cases hk
  | cons u ks ih =>
    intro known k hk h1 h2
    rw [learnS]
    rcases List.mem_cons.1 hk with e | hk
    · rw [← e]
      exact (learnS_up ks _).2 _ (learn_has h1 h2)
    · exact ih hk h1 (by rw [learnV_len]; exact h2)
theorem FolOk.seen {ts : List Term} {seen : List (List UInt8)} {K : List Bool} (h : FolOk ts seen K) {k : List UInt8} (hk : k ∈ seen) (h1 : nameK (be32 k) = k) (h2 : be32 k < ts.length) : Kn K (be32 k) :=
  h.of.up.2 _ (learnS_has seen hk h1 (by rw [List.length_replicate]; exact h2))
theorem roundG_end (ts : List Term) : ∀ (xs : List Term) (i : Nat) (K : List Bool), roundG ts xs i K false = (K, false) → ∀ j x, xs[j]? = some x → stepV ts (i + j) K false x = (K, false)
  | [], _, _, _, j, x, hx => by simp at hx
  | y :: xs, i, K, h, j, x, hx => by
    rw [roundG] at h
    have hm := MoreOk.roundG ts xs (i + 1) (stepV ts i K false y).1 (stepV ts i K false y).2
    rw [h] at hm
    obtain ⟨_, _, h3⟩ := hm
    obtain ⟨e1, e2⟩ := h3 rfl
    have hs : stepV ts i K false y = (K, false) := Prod.ext e2.symm e1
    cases j with
    | zero => simp only [List.getElem?_cons_zero, Option.some.injEq] at hx; subst hx; exact hs
    | succ j =>
      rw [hs] at h
      rw [show i + (j + 1) = i + 1 + j by omega]
      exact roundG_end ts xs (i + 1) K h j x (by simpa using hx)
theorem FolOk.clo {ts : List Term} {seen : List (List UInt8)} {K : List Bool} (h : FolOk ts seen K) : Clo ts K := by
  have hstep := fun i x hx => roundG_end ts ts 0 K h.end_ i x hx
  refine ⟨h.len, fun i x hx hm => ?_, fun i x hx h6 hi hh k hk h1 h2 => ?_⟩
  · have := hstep i x hx
    rw [Nat.zero_add] at this
    have m1 := MoreOk.step2 i (step1 ts i K false x).1 (step1 ts i K false x).2 x
    have e : step2 i (step1 ts i K false x).1 (step1 ts i K false x).2 x = (K, false) := this
    rw [e] at m1
    obtain ⟨_, _, m3⟩ := m1
    obtain ⟨e1, e2⟩ := m3 rfl
    have hlt : i < K.length := by rw [h.len]; exact (List.getElem?_eq_some_iff.1 hx).1
    by_cases hk : K.getD i true = false
    · unfold step1 at e1
      rw [if_pos ⟨hk, hm⟩] at e1
      cases e1
    · unfold Kn
      rw [List.getD_eq_getElem?_getD, List.getElem?_eq_getElem hlt] at hk ⊢
      simpa using hk
  · have := hstep i x hx
    rw [Nat.zero_add] at this
    have e : step2 i (step1 ts i K false x).1 (step1 ts i K false x).2 x = (K, false) := this
    have m1 := MoreOk.step2 i (step1 ts i K false x).1 (step1 ts i K false x).2 x
    rw [e] at m1
    obtain ⟨_, _, m3⟩ := m1
    obtain ⟨e1, e2⟩ := m3 rfl
    simp only at e2
    rw [← e2, e1] at e
    unfold step2 at e
    rw [if_pos ⟨hi, h6, hh⟩] at e
    have hL : ∀ (ks : List (List UInt8)) (known : List Bool) (more : Bool), (learnL known more ks).2 = false → ∀ k ∈ ks, nameK (be32 k) = k → be32 k < known.length → Kn known (be32 k) := by
      intro ks
      induction ks with
      | nil => intro _ _ _ k hk; cases hk
      | cons u ks ih =>
        intro known more hf k hk h1 h2
        rw [learnL] at hf
        have ml := MoreOk.learnL ks (learnV known u).2 ((learnV known u).1 || more)
        obtain ⟨_, _, m3⟩ := ml
        obtain ⟨a, _⟩ := m3 hf
        have hu : (learnV known u).2 = known := (learnV_cnt known u).2 (by simp at a; exact a.1)
        rcases List.mem_cons.1 hk with rfl | hk
        · have := learn_has h1 h2; rwa [hu] at this
        · have := ih _ _ hf k hk h1 (by rw [hu]; exact h2); rwa [hu] at this
    exact hL _ K false (by rw [e]) k hk h1 (by rw [h.len]; exact h2)
noncomputable def setOf (ts : List Term) (Q : Term → Prop) : List Bool := ts.map fun x => decide (Q x)
theorem setOf_len (ts : List Term) (Q : Term → Prop) : (setOf ts Q).length = ts.length := by simp [setOf]
theorem setOf_kn {ts : List Term} {Q : Term → Prop} {i : Nat} {x : Term} (hx : ts[i]? = some x) : Kn (setOf ts Q) i ↔ Q x := by
  unfold Kn setOf
  rw [List.getD_eq_getElem?_getD, List.getElem?_map, hx]
  simp
theorem hasV_nm {ts : List Term} (hts : TsOk ts) {known : List Bool} {x : Term} {k : List UInt8} (h : Nm ts x k) : ∃ n, k = nameK n ∧ In ts x n ∧ nameK (be32 k) = k ∧ be32 k = n ∧ hasV known k = known.getD n false := by
  obtain ⟨n, rfl, hn⟩ := h
  have hl := hts.len
  have hlt := hn.lt
  have e : be32 (nameK n) = n := be32_name (by omega)
  exact ⟨n, rfl, hn, by rw [e], e, by unfold hasV; rw [e, if_pos rfl]⟩
theorem hasV_set {ts : List Term} (hts : TsOk ts) {Q : Term → Prop} {x : Term} (hx : TermOk x) {k : List UInt8} (h : Nm ts x k) : hasV (setOf ts Q) k = true ↔ Q x := by
  obtain ⟨n, rfl, hn, _, _, e⟩ := hasV_nm hts (known := setOf ts Q) h
  rw [e]
  exact setOf_kn (hn.get hts hx)
theorem pubV_set {ts : List Term} (hts : TsOk ts) {Q : Term → Prop} {x : Term} (hx : TermOk x) {k : List UInt8} (h : Nm ts x k) (hq : pubV ts (setOf ts Q) k = true) : Q x ∨ (∃ n, In ts (pubT k) n) ∧ Q (pubT k) := by
  unfold pubV at hq
  simp only [Bool.or_eq_true] at hq
  rcases hq with hq | hq
  · exact .inl ((hasV_set hts hx h).1 hq)
  · refine .inr ?_
    cases hf : findT (shapeT (pubT k)) ts 0 with
    | none => rw [hf] at hq; cases hq
    | some n =>
      rw [hf] at hq
      have hin : In ts (pubT k) n := hf
      exact ⟨⟨n, hin⟩, (setOf_kn (hin.get hts (pubT_ok h.len))).1 hq⟩
end Go.Cab
namespace Go.Cab
open Go.RowKit
open Classical
def GC {I X : Type} (P : Program) (f : FuncId) (vs : List AV) (F : I → X → List (Option Blk)) (i : I) (r : AV) (j : I) : Prop :=
  ∀ x L, XCall P f vs (F i x ++ L) fun r' H' => r' = r ∧ ∃ x', H' = F j x' ++ L
theorem GC.xf {I X : Type} {P : Program} {f : FuncId} {vs : List AV} {F : I → X → List (Option Blk)} {N : Nat} {i j : I} {r : AV} (h : GC P f vs F i r j) (hN : ∀ i x, (F i x).length = N) (x : X) (L : List (Option Blk)) (E : List (Tmp × Blk)) :
    XCall P f vs (setE N (F i x ++ L) E) fun r' H' => ∃ hp', (r' = r ∧ ∃ x', hp' = F j x' ++ L) ∧ H' = setE N hp' E := by
  refine XCall.mono (xf_of (hN i x) (KG := fun r' G => r' = r ∧ ∃ x', G = F j x') (fun L => XCall.mono (h x L) ?_) (fun r' G' hG => ?_) E) ?_
  · rintro r' H' ⟨h1, x', h2⟩
    exact ⟨_, ⟨h1, x', rfl⟩, h2⟩
  · obtain ⟨_, x', rfl⟩ := hG
    exact hN _ _
  · rintro r' H' ⟨hp', ⟨G', ⟨h1, x', rfl⟩, rfl⟩, h3⟩
    exact ⟨_, ⟨h1, x', rfl⟩, h3⟩
section
variable {I X : Type} {P : Program} {F : I → X → List (Option Blk)} {N : Nat} {i j : I} {r : AV} {f : FuncId} {vs : List AV} {tm : List AV} {L : List (Option Blk)} {x : X} {K : AS → Prop} {xs : List AOp} {d : Option Tmp} {fo : List Tmp} {ow : Option Tmp}
theorem areg_gk {g : XT} {ys : List Operand} {keep fresh : List Tmp}
    (us : List AV) (hN : ∀ i x, (F i x).length = N) (ha : (ys.map fun y => AS.ev ⟨N, tm, F i x ++ L⟩ y) = us) (ht : tgtA P g us = some (f, vs)) (hc : GC P f vs F i r j) (hlt : ∀ t' ∈ fresh, t' < L.length)
    (hk : ∀ t' ∈ keep, ∀ b, (AS.ev ⟨N, tm, F i x ++ L⟩ (.tmp t')).place = some b → N ≤ b)
    (h : ∀ x', AReg P xs { AS.put ⟨N, tm, F i x ++ L⟩ d r with hp := F j x' ++ L } K) : AReg P (⟨d, none, .xc g ys keep fresh, fo, ow⟩ :: xs) ⟨N, tm, F i x ++ L⟩ K := by
  refine areg_xf (us := us) (K' := fun r' H' => r' = r ∧ ∃ x', H' = F j x' ++ L) ha ht (fun E _ => hc.xf hN x L E) ?_ (fun t' ht' => by simp [hN]; exact hlt t' ht') (fun r' hp' hK => ?_) ?_
  · exact ⟨_, _, rfl, x, rfl⟩
  · obtain ⟨_, x', rfl⟩ := hK
    refine ⟨fun t' ht' b hb => ?_, by simp [hN]⟩
    have hge := hk t' ht' b hb
    simp only
    rw [List.getElem?_append_right (by rw [hN]; exact hge), List.getElem?_append_right (by rw [hN]; exact hge), hN, hN]
  · rintro r' hp' ⟨rfl, x', rfl⟩
    exact h x'
theorem areg_gi {y : Operand} {zs : List Operand} (hc : GC P f vs F i r j) (ha : ((y :: zs).map fun z => AS.ev ⟨N, tm, F i x ++ L⟩ z) = vs)
    (h : ∀ x', AReg P xs { AS.put ⟨N, tm, F i x ++ L⟩ d r with hp := F j x' ++ L } K) : AReg P (⟨d, none, .icall f y zs, fo, ow⟩ :: xs) ⟨N, tm, F i x ++ L⟩ K :=
  areg_xc (K' := fun r' H' => r' = r ∧ ∃ x', H' = F j x' ++ L) ha (hc x L) ⟨_, _, rfl, x, rfl⟩ fun r' hp' ⟨h1, x', h2⟩ => by subst h1 h2; exact h x'
end
theorem GC.args {I X : Type} {P : Program} {f : FuncId} {l m : List AV} {F : I → X → List (Option Blk)} {i j : I} {r : AV} (hl : ArgLe l m) (h : GC P f m F i r j) : GC P f l F i r j := fun x L => XCall.args hl (h x L)
theorem leH_cat : ∀ (H : List (Option Blk)) {L L' : List (Option Blk)}, leH L L' → leH (H ++ L) (H ++ L')
  | [], _, _, h => h
  | _ :: H, _, _, h => ⟨.inr rfl, leH_cat H h⟩
theorem Le.cat {N : Nat} {tm tm' : List AV} {H L L' : List (Option Blk)} (ht : leT tm tm') (hl : leH L L') : Le ⟨N, tm, H ++ L⟩ ⟨N, tm', H ++ L'⟩ := Le.mk rfl ht (leH_cat H hl)
theorem Le.hp {s : AS} {tm' : List AV} {hp' : List (Option Blk)} (h : HpLe s.hp hp') (ht : leT s.tm tm') : Le s ⟨s.nr, tm', hp'⟩ := fun w0 wk regs St a w hs => by
  obtain ⟨Imm, h1, h2, h3⟩ := hs.ex
  obtain ⟨hl, hg⟩ := leT_get ht
  refine ⟨hs.defers, by rw [hs.tsize, hl], hs.tab, hs.frame, Imm, h1, fun t v hv => ?_, h _ _ _ _ h3⟩
  rcases hg t v hv with e | e
  · exact .inl e
  · exact h2 t v e
theorem HpLe.back {N : Nat} {G Lo : List (Option Blk)} {b j d : Nat} {X X' Y : Blk} (hN : G.length = N) (hbj : b ≠ j) (hb : b < N) (hj : j < N) (hX : G[b]? = some (some X)) (hle : BlkLe X X') (hd : Lo[d]? = some (some Y)) :
    HpLe (G ++ Lo) (((G.set b (some X')).set j (some Y)) ++ Lo.set d none) := by
  have hG : ((G.set b (some X')).set j (some Y)).length = N := by simp [hN]
  have key : ∀ (k : Nat) (x : Blk), (((((G.set b (some X')).set j (some Y)) ++ Lo.set d none))[k]?).join = some x → (k = j ∧ x = Y) ∨ (k = b ∧ x = X') ∨ (k ≠ j ∧ k ≠ b ∧ k ≠ N + d ∧ ((G ++ Lo)[k]?).join = some x) := fun k x hx => by
    by_cases hk : k < N
    · rw [List.getElem?_append_left (by omega)] at hx
      by_cases h1 : j = k
      · subst h1
        rw [List.getElem?_set_self (by simp; omega)] at hx
        exact .inl ⟨rfl, (Option.some.inj hx).symm⟩
      · rw [List.getElem?_set_ne h1] at hx
        by_cases h2 : b = k
        · subst h2
          rw [List.getElem?_set_self (by omega)] at hx
          exact .inr (.inl ⟨rfl, (Option.some.inj hx).symm⟩)
        · rw [List.getElem?_set_ne h2] at hx
          exact .inr (.inr ⟨fun h => h1 h.symm, fun h => h2 h.symm, by omega, by rw [List.getElem?_append_left (by omega)]; exact hx⟩)
    · rw [List.getElem?_append_right (by omega), hG] at hx
      by_cases h3 : d = k - N
      · subst h3
        rw [List.getElem?_set] at hx
        simp only [if_true] at hx
        split at hx <;> simp at hx
      · rw [List.getElem?_set_ne h3] at hx
        exact .inr (.inr ⟨by omega, by omega, by omega, by rw [List.getElem?_append_right (by omega), hN]; exact hx⟩)
  refine HpLe.gen (fun k => if k = j then N + d else k) (fun k k' x y hx hy e => ?_) (fun k x hx => ?_)
  · try simp only at e
    rcases key k x hx with ⟨h1, _⟩ | ⟨h1, _⟩ | ⟨h1, _, h2, _⟩ <;> rcases key k' y hy with ⟨g1, _⟩ | ⟨g1, _⟩ | ⟨g1, _, g2, _⟩ <;> (try split at e) <;> (try split at e) <;> omega
  · rcases key k x hx with ⟨rfl, rfl⟩ | ⟨rfl, rfl⟩ | ⟨h1, h2, _, h3⟩
    · rw [if_pos rfl]
      exact ⟨_, by rw [List.getElem?_append_right (by omega), hN, Nat.add_sub_cancel_left, hd]; rfl, BlkLe.refl _⟩
    · rw [if_neg hbj]
      exact ⟨X, by rw [List.getElem?_append_left (by omega), hX]; rfl, hle⟩
    · rw [if_neg h1]
      exact ⟨x, h3, BlkLe.refl _⟩
theorem tgt_dir {P : Program} {f : FuncId} (h : callable P f = true) (us : List AV) : tgtA P (.dir f) us = some (f, us) := by simp [tgtA, tgtB, h]
theorem tgt_val {P : Program} {f : FuncId} (h : callable P f = true) (first xs : List AV) : tgtA P .val (.fnv (.func f) first [] :: xs) = some (f, first ++ xs) := by simp [tgtA, tgtB, h]
theorem fill_st {s : AS} {ns : List Nat} {fs : List AV} {i n : Nat} {x : Operand} {rest : List (Nat × Operand)} {v f : AV} {out : Option AV} (hv : s.ev x = v) (hs : ns[i]? = some n) (hf : fs[i]? = some f) (ht : v.isTup = false) (hz : v.sz = n) (h : fillAV s (.st ns (fs.set i v)) rest = out) : fillAV s (.st ns fs) ((i, x) :: rest) = out := by
  subst h
  rw [fillAV]
  simp only [AV.sub, hs, hf, hv, ht, hz, and_self, if_true]
  rw [AV.upd, AV.upd]
theorem fill_ar {s : AS} {n : Nat} {fs : List AV} {i : Nat} {x : Operand} {rest : List (Nat × Operand)} {v f : AV} {out : Option AV} (hv : s.ev x = v) (hf : fs[i]? = some f) (ht : v.isTup = false) (hz : v.sz = n) (h : fillAV s (.arr n (fs.set i v)) rest = out) : fillAV s (.arr n fs) ((i, x) :: rest) = out := by
  subst h
  rw [fillAV]
  simp only [AV.sub, hf, hv, ht, hz, and_self, if_true]
  rw [AV.upd, AV.upd]
theorem areg_bd {P : Program} {s : AS} {K : AS → Prop} {xs : List AOp} {d : Option Tmp} {z z' : AV} {parts : List (Nat × Operand)} {fo : List Tmp} {ow : Option Tmp} (hf : fillAV s z parts = some z') (h : AReg P xs (s.put d z') K) : AReg P (⟨d, none, .build z parts, fo, ow⟩ :: xs) s K := by
  refine AOp.ex_go (s' := s.put d z') ?_ h
  simp only [AOp.ex, AOp.ex0, AOp.mineB, if_true, ex_build, hf, Option.map_some]
theorem areg_bsl {P : Program} {s : AS} {K : AS → Prop} {xs : List AOp} {d : Option Tmp} {esz n k : Nat} {z : AV} {els : List AV} {parts : List (Nat × Operand)} {fo : List Tmp} {ow : Option Tmp} (hf : fillAV s (.arr esz (List.replicate n z)) parts = some (.arr k els)) (h : AReg P xs (s.put d (.sl esz els)) K) : AReg P (⟨d, none, .bslice esz z n parts, fo, ow⟩ :: xs) s K := by
  refine AOp.ex_go (s' := s.put d (.sl esz els)) ?_ h
  simp only [AOp.ex, AOp.ex0, AOp.mineB, if_true, ex_bslice, hf, Option.map_some]
theorem areg_an {P : Program} {s : AS} {K : AS → Prop} {xs : List AOp} {d : Tmp} {e : TypeId} {esz bytes : Nat} {x y : Operand} {fo : List Tmp} {ow : Option Tmp} {ys : List AV} (hx : s.ev x = .lit (.slice none 0 0))
    (hy : s.coe (AOp.ro ⟨some d, none, .append e esz bytes x y, fo, ow⟩ s.nr) (s.ev y) = .sl esz ys) (h1 : ys.length ≤ maxLen) (h2 : ys.length * bytes ≤ 140737488355328)
    (h : ∀ V', AReg P xs ⟨s.nr, s.tm.set d (.own (s.nr + d) V'), s.hp.set (s.nr + d) (some (.row e V' esz ys 0))⟩ K) (hl : AOp.leaves ⟨some d, none, .append e esz bytes x y, fo, ow⟩ s (.lit (.slice none 0 0)) := by intro t ht; cases ht) : AReg P (⟨some d, none, .append e esz bytes x y, fo, ow⟩ :: xs) s K := by
  unfold AReg AOp.go AOp.mine
  simp only [AI.go, hx, AS.rowOf, hy, hpDrop, List.nil_append, List.length_nil, Nat.zero_add]
  exact ⟨by cases ow <;> exact hl, trivial, h1, h2, h⟩
theorem areg_ng {P : Program} {s : AS} {K : AS → Prop} {xs : List AOp} {d : Option Tmp} {t : Tmp} {b : Bool} {ai : AI} {fo : List Tmp} {ow : Option Tmp} (hg : s.ev (.tmp t) = .lit (.bool (!b))) (h : AReg P xs (s.put d (.tup [])) K) : AReg P (⟨d, some (t, b), ai, fo, ow⟩ :: xs) s K := by
  unfold AReg AOp.go
  simp only [hg]
  cases b <;> simpa using h
theorem areg_op {P : Program} {s s' : AS} {K : AS → Prop} {x : AOp} {xs : List AOp} (h : x.ex s = some s') (k : AReg P xs s' K) : AReg P (x :: xs) s K := AOp.ex_go h k
theorem areg_nt {P : Program} {s : AS} {K : AS → Prop} {xs : List AOp} {d : Option Tmp} {t : Tmp} {b : Bool} {ai : AI} {fo : List Tmp} {ow : Option Tmp} (hg : s.ev (.tmp t) = .tup []) (h : AReg P xs (s.put d (.tup [])) K) : AReg P (⟨d, some (t, b), ai, fo, ow⟩ :: xs) s K := by
  unfold AReg AOp.go
  simp only [hg]
  exact h
theorem areg_pkT {P : Program} {s : AS} {K : AS → Prop} {xs : List AOp} {d : Option Tmp} {c x y : Operand} {fo : List Tmp} {ow : Option Tmp} (hc : s.ev c = .lit (.bool true)) (h : AReg P xs (s.put d (s.ev x)) K) : AReg P (⟨d, none, .pick c x y, fo, ow⟩ :: xs) s K := by
  unfold AReg AOp.go AOp.mine
  simp only [AI.go, hc]
  exact ⟨by cases ow <;> trivial, h⟩
theorem areg_pkF {P : Program} {s : AS} {K : AS → Prop} {xs : List AOp} {d : Option Tmp} {c x y : Operand} {fo : List Tmp} {ow : Option Tmp} (hc : s.ev c = .lit (.bool false)) (h : AReg P xs (s.put d (s.ev y)) K) : AReg P (⟨d, none, .pick c x y, fo, ow⟩ :: xs) s K := by
  unfold AReg AOp.go AOp.mine
  simp only [AI.go, hc]
  exact ⟨by cases ow <;> trivial, h⟩
theorem areg_mv {P : Program} {s : AS} {K : AS → Prop} {xs : List AOp} {d : Option Tmp} {x : Operand} {fo : List Tmp} {ow : Option Tmp} (h : AReg P xs (s.put d (s.ev x)) K) : AReg P (⟨d, none, .mov x, fo, ow⟩ :: xs) s K := by
  unfold AReg AOp.go AOp.mine
  simp only [AI.go]
  exact ⟨by cases ow <;> trivial, h⟩
theorem AVle.nilS (esz : Nat) : AVle (.lit (.slice none 0 0)) (.sl esz []) := fun Imm w cs h => by
  cases h with | lit _ hs => exact .slnil esz
theorem PCall.relLe {P : Program} {f : FuncId} {args : List AV} {r r' : AV} (h : PCall P f args (.val r)) (hr : RelLe r r') (hn : r' ≠ .any) : PCall P f args (.val r') := fun w St Vs a b => by
  refine Calls.mono (h w St Vs a b) fun e w' ⟨V, Imm, h1, h2, h3, h4⟩ => ⟨V, Imm, h1, h2, h3, ?_⟩
  exact ⟨hr _ _ _ h4.1, hn⟩
theorem Le.setB {s : AS} {b : Nat} {X X' : Blk} (hb : s.hp[b]? = some (some X)) (hX : BlkLe X X') : Le s ⟨s.nr, s.tm, s.hp.set b (some X')⟩ := by
  have hlt : b < s.hp.length := (List.getElem?_eq_some_iff.1 hb).1
  refine Le.gen rfl (fun t v' hv => .inr (.inl hv)) (fun k => k) (fun k k' x y _ _ e => e) (fun k x hx => ?_)
  simp only at hx
  by_cases hk : b = k
  · subst hk
    rw [List.getElem?_set_self hlt] at hx
    simp only [Option.join_some, Option.some.injEq] at hx
    subst hx
    exact ⟨X, by rw [hb]; rfl, hX⟩
  · rw [List.getElem?_set_ne hk] at hx
    exact ⟨x, hx, BlkLe.refl _⟩
end Go.Cab
namespace Go.Cab
open Go.RowKit
open Classical
def fb516 : AC := (.seq (.reg [⟨some 4, none, .alloc 32 (.arr 1 (List.replicate 32 (.lit (bn 0)))), [], none⟩]) (.seq (.reg [⟨some 5, none, .alloc 32 (.arr 1 (List.replicate 32 (.lit (bn 0)))), [], none⟩]) (.seq (.seq (.reg [⟨some 6, none, .mov (.tmp 1), [], none⟩, ⟨some 7, none, .len true (.tmp 6), [], none⟩, ⟨some 8, none, .bin .neq (.tmp 7) (.const (jn 32)), [], none⟩]) (.cond (.tmp 8) (.seq (.reg [⟨some 9, none, .mov (.tmp 0), [], none⟩, ⟨some 10, none, .mov (.tmp 1), [], none⟩, ⟨some 11, none, .bin .add (.const (tx [98, 111, 120])) (.tmp 10), [], none⟩, ⟨some 12, none, .icall 27 (.tmp 9) [(.tmp 11), (.const (.slice .none 0 0))], [], none⟩, ⟨none, none, .store 32 (.tmp 4) (.tmp 12), [], none⟩]) .ret) .skip)) (.seq (.reg [⟨some 13, none, .rdp (.vslice 1 32 false false) [.tmp 5], [], none⟩, ⟨some 14, none, .mov (.tmp 1), [], none⟩, ⟨some 15, none, .ef (.copy 1) [.tmp 13, .tmp 14], [], none⟩]) (.seq (.reg [⟨some 16, none, .load true 32 (.tmp 5), [], none⟩, ⟨none, none, .store 32 (.tmp 4) (.tmp 16), [], none⟩]) .ret)))))
def fc516 : FC := ⟨2, 17, [(.cell 4 .true 32)], fb516⟩
theorem fc516_eq : compF Go.Proofs.Tryd.prog 13 = some fc516 := by kernel_rfl
theorem tgt_mark (b : Nat) (l : Nat × Nat) (x : AV) : tgtA Go.Proofs.Tryd.prog (.dir 13) [.ptr b l 0 [], x] = some (13, [.ptr b l 0 [], x]) := by kernel_rfl
set_option maxHeartbeats 8000000 in
theorem mark_call {H : List (Option Blk)} (b : Nat) (l : Nat × Nat) {m : List UInt8} (hl : m.length = 32) : XCall Go.Proofs.Tryd.prog 13 [.ptr b l 0 [], .lit (tx m)] H fun r H' => r = keyA m ∧ H' = H := by
  have h516 := fc516_eq
  refine XCall.le ?_
  refine XCall.of h516 rfl ?_; show AC.wp _ fb516 ⟨H.length, [.ptr b l 0 [], .lit (tx m)] ++ List.replicate (17 - 2) .any, H ++ List.replicate 17 none⟩ (fun x s => match x with | .exit _ => False | _ => ∃ s1, Le s s1 ∧ FinX [(.cell 4 .true 32)] s1 _); unfold fb516
  generalize hN : H.length = N at *
  have p1 : ∀ L k, (H ++ L)[N + k]? = L[k]? := fun L k => cat1 N H L k hN
  have p2 : ∀ L k x, (H ++ L).set (N + k) x = H ++ L.set k x := fun L k x => cat2 N H L k x hN
  refine wp_sg (areg_al' zk_eq.symm fun l4 => areg_end (by simp [push_cast, p1, p2]; exact rfl) ?_)
  refine wp_sg (areg_al' zk_eq.symm fun l5 => areg_end (by simp [push_cast, p1, p2]; exact rfl) ?_)
  refine wp_seq' (wp_sr (by simp [push_cast, hl]; exact rfl) (wp_cond_f rfl (wp_skip' ?_)))
  refine wp_sg ?_
  refine areg_run 2 (by simp [push_cast]; exact rfl) ?_
  refine areg_cpk (src := m) (k' := m) rfl (by simp only [AS.blk, p1]; rfl) (listB_tx _ _) (by simp [zk_len]) (by omega) (by simp [List.drop_eq_nil_of_le, hl, zk_len]) (areg_nil ?_)
  refine wp_sr (by simp [push_cast, p1, p2, hl]; exact rfl) (wp_ret' ?_)
  exact ⟨_, Le.refl _, [], _, ⟨by simp [AS.seals, RVals, RVal, AS.ev, AS.peek, AS.blk, p1, Blk.loc, Blk.cont, Blk.n, AV.nav, AV.isAgg, AV.isTup, AS.coe]; rfl, by simp [keyA]⟩, keyA m, H, RelLe.refl _, by simp [keyA], HpLe.trim _ _, rfl, rfl⟩
theorem mark_k {H : List (Option Blk)} {t : Tb} {ts : List Term} {m : List UInt8} (hl : m.length = 32) : KC Go.Proofs.Tryd.prog 13 [.ptr t.b t.l 0 [], .lit (tx m)] H t ts (keyA m) ts := fun V L =>
  XCall.mono (mark_call _ _ hl) fun r H' hr => ⟨hr.1, V, hr.2⟩
end Go.Cab