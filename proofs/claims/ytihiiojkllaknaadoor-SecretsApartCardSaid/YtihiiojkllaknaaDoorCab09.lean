/- Part 9 of what the proof stands on: G18, S0, S2, H5, H6, S3, S4, S5, S6, S7. -/
import Derived.Test.YtihiiojkllaknaaDoorCab08
set_option linter.unusedSimpArgs false
set_option linter.unnecessarySimpa false
set_option linter.unusedVariables false
set_option linter.unusedSectionVars false
/- Bundle, plain: both come to one secret. -/
-- TEXTS
-- KIT
namespace Go.Cab
open Classical

/-- Secrets, and their public keys. -/
def ShL (ts : List Term) : List (List UInt8) → List (List UInt8) → Prop
  | [], [] => True
  | x :: xs, y :: ys => x.length = 32 ∧ Nm ts (pubT x) y ∧ ShL ts xs ys
  | _, _ => False
theorem ShL.mono {ts us : List Term} (k : ts <+: us) : ∀ {xs ys : List (List UInt8)}, ShL ts xs ys → ShL us xs ys
  | [], [], _ => trivial
  | _ :: _, _ :: _, ⟨h1, h2, h3⟩ => ⟨h1, h2.mono k, h3.mono k⟩
  | [], _ :: _, h => h.elim
  | _ :: _, [], h => h.elim
theorem ShL.len {ts : List Term} : ∀ {xs ys : List (List UInt8)}, ShL ts xs ys → xs.length = ys.length ∧ (∀ x ∈ xs, x.length = 32) ∧ ∀ y ∈ ys, y.length = 32
  | [], [], _ => ⟨rfl, by simp, by simp⟩
  | x :: xs, y :: ys, ⟨h1, h2, h3⟩ => by
    obtain ⟨r1, r2, r3⟩ := h3.len
    have := h2.len
    refine ⟨by simp [r1], ?_, ?_⟩
    · intro z hz; rcases List.mem_cons.1 hz with rfl | hz
      · exact h1
      · exact r2 z hz
    · intro z hz; rcases List.mem_cons.1 hz with rfl | hz
      · exact this
      · exact r3 z hz
  | [], _ :: _, h => h.elim
  | _ :: _, [], h => h.elim
theorem ShL.app {ts : List Term} : ∀ {xs ys : List (List UInt8)} {x y : List UInt8}, ShL ts xs ys → x.length = 32 → Nm ts (pubT x) y → ShL ts (xs ++ [x]) (ys ++ [y])
  | [], [], _, _, _, h1, h2 => ⟨h1, h2, trivial⟩
  | _ :: _, _ :: _, _, _, ⟨h1, h2, h3⟩, k1, k2 => ⟨h1, h2, h3.app k1 k2⟩
  | [], _ :: _, _, _, h, _, _ => h.elim
  | _ :: _, [], _, _, h, _, _ => h.elim

structure Sh (ts : List Term) (s b : Store) : Prop where
  id : Nm ts (pubT s.id) b.id
  pre : Nm ts (pubT s.pre) b.pre
  ones : ShL ts s.ones b.ones
  ok : StoreOk s
  nd : s.ones.Nodup
theorem Sh.mono {ts us : List Term} {s b : Store} (h : Sh ts s b) (k : ts <+: us) : Sh us s b := ⟨h.id.mono k, h.pre.mono k, h.ones.mono k, h.ok, h.nd⟩
theorem Sh.okb {ts : List Term} {s b : Store} (h : Sh ts s b) : StoreOk b := by
  obtain ⟨r1, r2, r3⟩ := h.ones.len
  exact ⟨h.id.len, h.pre.len, r3, by rw [← r1]; exact h.ok.len⟩

/-! ### The store -/
theorem dig_lt {i : Nat} (hi : i < 10) : digs i = [dig8 i] := by rw [digs, dif_pos hi]
theorem dig_inj {i j : Nat} (hi : i < 10) (hj : j < 10) (h : digs i = digs j) : i = j := by
  rw [dig_lt hi, dig_lt hj] at h
  simp only [dig8, List.cons.injEq, and_true] at h
  have := congrArg UInt8.toNat h
  rw [ofNat_mod, ofNat_mod] at this
  omega
theorem dig1 {i : Nat} (hi : i < 10) : (digs i).length = 1 := by rw [digs, dif_pos hi]; rfl
def oneT (i : Nat) : Term := drawT (txOne ++ digs i)
theorem oneT_ok {i : Nat} (hi : i < 10) : TermOk (oneT i) := drawT_ok (by rw [List.length_append, dig1 hi]; simp [txOne])
theorem oneT_inj {i j : Nat} (hi : i < 10) (hj : j < 10) (h : oneT i = oneT j) : i = j := by
  simp only [oneT, drawT, Term.mk.injEq, and_true, true_and] at h
  exact dig_inj hi hj (List.append_cancel_left h)
theorem onesG_ok : ∀ (m : Nat) (ts : List Term) (acc : List (List UInt8)) (i : Nat), TsOk ts → i + m ≤ 10 → ts.length + m + 10 < 90000 → acc.Nodup → (∀ k ∈ acc, ∃ j, j < i ∧ Nm ts (oneT j) k) → acc.length = i →
    (onesG m ts acc i).1.Nodup ∧ (∀ k ∈ (onesG m ts acc i).1, k.length = 32) ∧ (onesG m ts acc i).1.length = i + m ∧ TsOk (onesG m ts acc i).2 ∧ (onesG m ts acc i).2.length ≤ ts.length + m ∧ (∀ k ∈ (onesG m ts acc i).1, ∃ j, j < i + m ∧ Nm (onesG m ts acc i).2 (oneT j) k)
  | 0, ts, acc, i, hts, _, _, hnd, hk, hl => ⟨hnd, fun k h => by obtain ⟨_, _, h⟩ := hk k h; exact h.len, hl, hts, Nat.le_refl _, hk⟩
  | m + 1, ts, acc, i, hts, hi, hlen, hnd, hk, hl => by
    have hok := oneT_ok (i := i) (by omega)
    have hlp := putT_len ts (oneT i)
    have hp : TsOk (putT ts (oneT i)) := hts.put hok ⟨fun h => by simp [oneT, drawT] at h, fun h => by simp [oneT, drawT] at h⟩ (by omega)
    have hnew := Nm.put ts (oneT i)
    have := onesG_ok m (putT ts (oneT i)) (acc ++ [nameK (putN ts (oneT i))]) (i + 1) hp (by omega) (by omega) ?_ ?_ (by simp [hl])
    · rw [onesG]
      obtain ⟨r1, r2, r3, r4, r5, r6⟩ := this
      exact ⟨r1, r2, by rw [show i + (m + 1) = i + 1 + m by omega]; exact r3, r4, Nat.le_trans r5 (by omega), fun k hk => by obtain ⟨j, hj, h⟩ := r6 k hk; exact ⟨j, by omega, h⟩⟩
    · rw [List.nodup_append]
      refine ⟨hnd, by simp, fun a ha b hb he => ?_⟩
      simp only [List.mem_singleton] at hb
      subst hb he
      obtain ⟨j, hj, h⟩ := hk _ ha
      have := (h.mono (put_pre ts (oneT i))).inj hnew hp (oneT_ok (by omega)) hok
      have := oneT_inj (by omega) (by omega) this
      omega
    · intro k hk'
      rcases List.mem_append.1 hk' with h | h
      · obtain ⟨j, hj, h⟩ := hk k h
        exact ⟨j, by omega, h.mono (put_pre _ _)⟩
      · simp only [List.mem_singleton] at h
        subst h
        exact ⟨i, by omega, hnew⟩
theorem storeT_ok {ts : List Term} (hts : TsOk ts) {n : Nat} (hn : n ≤ 10) (hlen : ts.length + 100 < 90000) :
    StoreOk (storeT ts n).1 ∧ (storeT ts n).1.ones.Nodup ∧ (storeT ts n).1.ones.length = n ∧ TsOk (storeT ts n).2 ∧ (storeT ts n).2.length ≤ ts.length + n + 2 ∧ (∀ k ∈ (storeT ts n).1.ones, ∃ j, j < n ∧ Nm (storeT ts n).2 (oneT j) k) := by
  have l1 := putT_len ts (drawT txId)
  have l2 := putT_len (putT ts (drawT txId)) (drawT txPre)
  have h1 := hts.draw (s := txId) (by decide) (by omega)
  have h2 := h1.draw (s := txPre) (by decide) (by omega)
  obtain ⟨r1, r2, r3, r4, r5, r6⟩ := onesG_ok n _ [] 0 h2 (by omega) (by omega) (by simp) (by simp) rfl
  refine ⟨⟨nameK_len _, nameK_len _, r2, by show (onesG _ _ _ _).1.length < 900; omega⟩, r1, by show (onesG _ _ _ _).1.length = n; omega, r4, by show (onesG _ _ _ _).2.length ≤ _; omega, fun k hk => by obtain ⟨j, hj, h⟩ := r6 k hk; exact ⟨j, by omega, h⟩⟩

theorem pubsG_ok : ∀ (xs done : List (List UInt8)) (ts : List Term) (acc : List (List UInt8)), TsOk ts → ts.length + xs.length + 10 < 90000 → (∀ x ∈ xs, x.length = 32) → ShL ts done acc →
    ShL (pubsG xs ts acc).2 (done ++ xs) (pubsG xs ts acc).1 ∧ TsOk (pubsG xs ts acc).2 ∧ (pubsG xs ts acc).2.length ≤ ts.length + xs.length ∧ ts <+: (pubsG xs ts acc).2
  | [], done, ts, acc, hts, _, _, h => ⟨by rw [List.append_nil]; exact h, hts, Nat.le_refl _, List.prefix_refl _⟩
  | x :: xs, done, ts, acc, hts, hl, h32, h => by
    simp only [List.length_cons] at hl ⊢
    have hlp := putT_len ts (pubT x)
    have hx := h32 x (by simp)
    obtain ⟨r1, r2, r3, r4⟩ := pubsG_ok xs (done ++ [x]) (putT ts (pubT x)) (acc ++ [nameK (putN ts (pubT x))]) (hts.putPub hx (by omega)) (by omega) (fun y hy => h32 y (by simp [hy])) ((h.mono (put_pre _ _)).app hx (Nm.put _ _))
    rw [List.append_assoc, List.singleton_append] at r1
    exact ⟨r1, r2, by rw [pubsG]; omega, (put_pre _ _).trans r4⟩
theorem showT_ok {ts : List Term} (hts : TsOk ts) {s : Store} (hs : StoreOk s) (hnd : s.ones.Nodup) (hlen : ts.length + 1000 < 90000) :
    Sh (showT ts s).2 s (showT ts s).1 ∧ TsOk (showT ts s).2 ∧ (showT ts s).2.length ≤ ts.length + s.ones.length + 2 ∧ ts <+: (showT ts s).2 := by
  have l0 := hs.len
  have l1 := putT_len ts (pubT s.id)
  have l2 := putT_len (putT ts (pubT s.id)) (pubT s.pre)
  have h1 := hts.putPub hs.id (by omega)
  have h2 := h1.putPub hs.pre (by omega)
  obtain ⟨r1, r2, r3, r4⟩ := pubsG_ok s.ones [] _ [] h2 (by omega) hs.ones trivial
  refine ⟨⟨((Nm.put ts (pubT s.id)).mono (put_pre _ _)).mono r4, (Nm.put _ (pubT s.pre)).mono r4, r1, hs, hnd⟩, r2, by show (pubsG _ _ _).2.length ≤ _; omega, (put_pre _ _).trans ((put_pre _ _).trans r4)⟩

/-! ### A greeting, and its answer -/
theorem idxF_none {one : List UInt8} : ∀ {xs ys : List (List UInt8)} {ts : List Term} {i : Nat}, ShL ts xs ys → (∀ y ∈ ys, y ≠ one) → idxF one ts xs i = (none, ts)
  | [], [], _, _, _, _ => rfl
  | x :: xs, y :: ys, ts, i, ⟨_, h2, h3⟩, h => by
    rw [idxF, h2.putN, if_neg (h y (by simp)), h2.putT]
    exact idxF_none h3 (fun z hz => h z (by simp [hz]))
  | [], _ :: _, _, _, h, _ => h.elim
  | _ :: _, [], _, _, h, _ => h.elim
theorem ShL.ne {ts : List Term} (hts : TsOk ts) {x y : List UInt8} (hx : x.length = 32) (hxy : Nm ts (pubT x) y) : ∀ {xs ys : List (List UInt8)}, ShL ts xs ys → x ∉ xs → ∀ z ∈ ys, z ≠ y
  | [], [], _, _ => by simp
  | u :: us, v :: vs, ⟨h1, h2, h3⟩, hn => by
    intro z hz he
    rcases List.mem_cons.1 hz with rfl | hz
    · subst he
      have := h2.inj hxy hts (pubT_ok h1) (pubT_ok hx)
      simp only [pubT, Term.mk.injEq, List.cons.injEq, and_true, true_and] at this
      exact hn (by simp [this])
    · exact h3.ne hts hx hxy (fun h => hn (by simp [h])) z hz he
  | [], _ :: _, h, _ => h.elim
  | _ :: _, [], h, _ => h.elim

/-- Names of terms. -/
def NmL (ts : List Term) : List Term → List (List UInt8) → Prop
  | [], [] => True
  | x :: xs, k :: ks => Nm ts x k ∧ NmL ts xs ks
  | _, _ => False
theorem NmL.mono {ts us : List Term} (p : ts <+: us) : ∀ {xs : List Term} {ks : List (List UInt8)}, NmL ts xs ks → NmL us xs ks
  | [], [], _ => trivial
  | _ :: _, _ :: _, ⟨h, k⟩ => ⟨h.mono p, k.mono p⟩
  | [], _ :: _, h => h.elim
  | _ :: _, [], h => h.elim
theorem NmL.app {ts : List Term} {x : Term} {k : List UInt8} : ∀ {xs : List Term} {ks : List (List UInt8)}, NmL ts xs ks → Nm ts x k → NmL ts (xs ++ [x]) (ks ++ [k])
  | [], [], _, h => ⟨h, trivial⟩
  | _ :: _, _ :: _, ⟨h, g⟩, k => ⟨h, g.app k⟩
  | [], _ :: _, h, _ => h.elim
  | _ :: _, [], h, _ => h.elim
theorem mem_put {ts : List Term} {x y : Term} (h : y ∈ putT ts x) : y ∈ ts ∨ y = x := by
  unfold putT at h
  cases hf : findT (shapeT x) ts 0 with
  | some n => rw [hf] at h; exact .inl h
  | none => rw [hf] at h; simpa using h
theorem goG_nm : ∀ (qs : List KK) (ts : List Term) (acc : List (List UInt8)) (xs : List Term), NmL ts xs acc → NmL (goG ts acc qs).2 (xs ++ qs.map fun q => agr q.1 q.2) (goG ts acc qs).1
  | [], ts, acc, xs, h => by simpa [goG] using h
  | q :: qs, ts, acc, xs, h => by
    have := goG_nm qs (putT ts (agr q.1 q.2)) (acc ++ [nameK (putN ts (agr q.1 q.2))]) (xs ++ [agr q.1 q.2]) ((h.mono (put_pre _ _)).app (Nm.put _ _))
    rw [List.append_assoc] at this
    exact this
theorem goG_mem : ∀ (qs : List KK) (ts : List Term) (acc : List (List UInt8)) (y : Term), y ∈ (goG ts acc qs).2 → y ∈ ts ∨ ∃ q ∈ qs, y = agr q.1 q.2
  | [], ts, acc, y, h => .inl h
  | q :: qs, ts, acc, y, h => by
    rcases goG_mem qs _ _ y h with h | ⟨q', hq, e⟩
    · rcases mem_put h with h | h
      · exact .inl h
      · exact .inr ⟨q, by simp, h⟩
    · exact .inr ⟨q', by simp [hq], e⟩
/-- The pairs of secrets. -/
def qsOf (id eph : List UInt8) (s : Store) : List KK := [(id, s.pre), (eph, s.id), (eph, s.pre)] ++ (s.ones.take 1).map fun o => (eph, o)

structure Meets (ts : List Term) (id eph : List UInt8) (s b : Store) (x : Begun) (ts' : List Term) : Prop where
  beg : beginT ts id eph b = (some x, ts')
  pre : ts <+: ts'
  ok : TsOk ts'
  len : ts'.length ≤ ts.length + 20
  one : x.h.one = b.ones.headD zk
  rest : x.rest = ⟨b.id, b.pre, b.ones.drop 1⟩
  ans : answerT ts' s x.h = (.inr ⟨⟨s.id, s.pre, s.ones.drop 1⟩, x.secret⟩, ts')
  again : answerT ts' ⟨s.id, s.pre, s.ones.drop 1⟩ x.h = (if s.ones = [] then .inr ⟨⟨s.id, s.pre, []⟩, x.secret⟩ else .inl 22, ts')
  sh : Sh ts' ⟨s.id, s.pre, s.ones.drop 1⟩ x.rest
  hok : HelloOk x.h
  sec : x.secret.length = 32
  secnz : x.secret ≠ zk
  hid : Nm ts' (pubT id) x.h.id
  heph : Nm ts' (pubT eph) x.h.eph
  all : ∃ hs, NmL ts' ((qsOf id eph s).map fun q => agr q.1 q.2) hs ∧ Nm ts' ⟨2, hello, hs⟩ x.secret ∧ ∀ y ∈ ts', y ∈ ts ∨ (∃ q ∈ qsOf id eph s, y = agr q.1 q.2) ∨ y = ⟨2, hello, hs⟩ ∨ y = pubT id ∨ y = pubT eph

theorem meets {ts : List Term} (hts : TsOk ts) {id eph : List UInt8} {s b : Store} (hid : id.length = 32) (heph : eph.length = 32) (h : Sh ts s b) (hlen : ts.length + 1000 < 90000) : ∃ x ts', Meets ts id eph s b x ts' := by
  obtain ⟨h1, h2, h3, h4, h5⟩ := h
  obtain ⟨sid, spre, sones⟩ := s
  obtain ⟨bid, bpre, bones⟩ := b
  obtain ⟨s1, s2, s3, s4⟩ := h4
  simp only at h1 h2 h3 h5 s1 s2 s3 s4
  -- the pairs, as secrets
  have hP : ∃ one ps rest, beginP id eph ⟨bid, bpre, bones⟩ = (one, ps, rest) := ⟨_, _, _, rfl⟩
  obtain ⟨one, ps, rest, hP⟩ := hP
  obtain ⟨qs, hqs, hpl, hone, hrest⟩ : ∃ qs, PubsOf ts ps qs ∧ ps.length ≤ 4 ∧ one = bones.headD zk ∧ rest = bones.drop 1 ∧ (qs = [(id, spre), (eph, sid), (eph, spre)] ∧ sones = [] ∨ ∃ o os, sones = o :: os ∧ qs = [(id, spre), (eph, sid), (eph, spre), (eph, o)]) := by
    match sones, bones, h3 with
    | [], [], _ =>
      simp only [beginP, Prod.mk.injEq] at hP
      obtain ⟨rfl, rfl, rfl⟩ := hP
      exact ⟨[(id, spre), (eph, sid), (eph, spre)], ⟨rfl, hid, s2, h2, rfl, heph, s1, h1, rfl, heph, s2, h2, trivial⟩, by simp [pairs0], rfl, rfl, .inl ⟨rfl, rfl⟩⟩
    | o :: os, y :: ys, ⟨k1, k2, k3⟩ =>
      simp only [beginP, Prod.mk.injEq] at hP
      obtain ⟨rfl, rfl, rfl⟩ := hP
      exact ⟨[(id, spre), (eph, sid), (eph, spre), (eph, o)], ⟨rfl, hid, s2, h2, rfl, heph, s1, h1, rfl, heph, s2, h2, rfl, heph, k1, k2, trivial⟩, by simp [pairs0], rfl, rfl, .inr ⟨o, os, rfl, rfl⟩⟩
    | [], _ :: _, h => exact h.elim
    | _ :: _, [], h => exact h.elim
  obtain ⟨hrest, hq⟩ := hrest
  have hgo := agreedT_go hts (by omega) hqs
  have hps32 : ∀ x ∈ ps, x.1.length = 32 ∧ x.2.length = 32 := by
    have : ∀ {ps qs : List KK}, PubsOf ts ps qs → ∀ x ∈ ps, x.1.length = 32 ∧ x.2.length = 32 := by
      intro ps
      induction ps with
      | nil => intro qs _ x hx; cases hx
      | cons p ps ih =>
        intro qs hq x hx
        cases qs with
        | nil => exact hq.elim
        | cons q qs =>
          obtain ⟨a1, a2, a3, a4, a5⟩ := hq
          rcases List.mem_cons.1 hx with rfl | hx
          · exact ⟨by rw [a1]; exact a2, a4.len⟩
          · exact ih a5 x hx
    exact this hqs
  obtain ⟨g1, g2, g3, g4⟩ := agreedT_ok hts (ps := ps) (by omega) hps32
  have hpre1 := agreedT_pre hts (by omega) hqs
  obtain ⟨k, hk⟩ : ∃ k, k = nameK (putN (goG ts [] qs).2 ⟨2, hello, (goG ts [] qs).1⟩) := ⟨_, rfl⟩
  obtain ⟨ts1, ht1⟩ : ∃ ts1, ts1 = (agreedT ts ps).2 := ⟨_, rfl⟩
  have hag : agreedT ts ps = (some k, ts1) := by rw [ht1, hgo, ← hk]
  have hsame := fun (us : List Term) (hus : TsOk us) (ps' qs' : List KK) (hl' : us.length + ps'.length + 10 < 90000) (h' : PubsOf us ps' qs') (he : (qs.map fun q => agr q.1 q.2) = (qs'.map fun q => agr q.1 q.2)) (hp : ts1 <+: us) => agreedT_again hts hus (by omega) hl' hqs h' he (by rw [← ht1]; exact hp)
  rw [hag] at hsame
  rw [← ht1] at g1 g2 g3 hpre1
  have l1 := putT_len ts1 (pubT id)
  have l2 := putT_len (putT ts1 (pubT id)) (pubT eph)
  have t1 := g1.putPub hid (by omega)
  have t2 := t1.putPub heph (by omega)
  have p1 := put_pre ts1 (pubT id)
  have p2 := put_pre (putT ts1 (pubT id)) (pubT eph)
  have n1 := (Nm.put ts1 (pubT id)).mono p2
  have n2 := Nm.put (putT ts1 (pubT id)) (pubT eph)
  obtain ⟨ts3, ht3⟩ : ∃ ts3, ts3 = putT (putT ts1 (pubT id)) (pubT eph) := ⟨_, rfl⟩
  have hbeg : beginT ts id eph ⟨bid, bpre, bones⟩ = (some ⟨⟨nameK (putN ts1 (pubT id)), nameK (putN (putT ts1 (pubT id)) (pubT eph)), one⟩, k, ⟨bid, bpre, rest⟩⟩, ts3) := by
    unfold beginT; rw [hP]; simp only; rw [hag, ht3]
  generalize nameK (putN ts1 (pubT id)) = e1 at *
  generalize nameK (putN (putT ts1 (pubT id)) (pubT eph)) = e2 at *
  rw [← ht3] at n1 n2 t2 p2 l2
  have hp13 := p1.trans p2
  have hp3 := hpre1.trans hp13
  have hklen : k.length = 32 := by rw [hk]; exact nameK_len _
  have hknz : k ≠ zk := by rw [hk]; exact name_nz _
  have honelen : one.length = 32 := by
    rw [hone]
    match sones, bones, h3 with
    | [], [], _ => rfl
    | o :: os, y :: ys, ⟨_, k2, _⟩ => exact k2.len
    | [], _ :: _, h => exact h.elim
    | _ :: _, [], h => exact h.elim
  have hhok : HelloOk ⟨e1, e2, one⟩ := ⟨n1.len, n2.len, honelen⟩
  refine ⟨_, ts3, ⟨hbeg, hp3, t2, by omega, hone, by rw [hrest], ?_, ?_, ?_, hhok, hklen, hknz, n1, n2, ?_⟩⟩
  · -- the answer
    rcases hq with ⟨hq, rfl⟩ | ⟨o, os, rfl, hq⟩
    · match bones, h3 with
      | [], _ =>
        have hz : one = zk := hone
        have hP' : answerP ts3 ⟨sid, spre, []⟩ ⟨e1, e2, one⟩ = (some (pairsA ⟨sid, spre, []⟩ ⟨e1, e2, one⟩, []), ts3) := by simp [answerP, hz]
        have := hsame ts3 t2 (pairsA ⟨sid, spre, []⟩ ⟨e1, e2, one⟩) [(spre, id), (sid, eph), (spre, eph)] (by simp [pairsA]; omega) ⟨rfl, s2, hid, n1, rfl, s1, heph, n2, rfl, s2, heph, n2, trivial⟩ (by rw [hq]; simp [agr_comm id spre, agr_comm eph sid, agr_comm eph spre]) hp13
        unfold answerT
        rw [hP']
        simp only
        rw [this]
        rfl
      | _ :: _, h => exact h.elim
    · match bones, h3 with
      | y :: ys, ⟨k1, k2, k3⟩ =>
        have hone' : one = y := hone
        have hnz : one ≠ zk := by rw [hone']; exact k2.nz
        have k2' := k2.mono hp3
        have hidx : idxF one ts3 (o :: os) 0 = (some 0, ts3) := by rw [idxF, k2'.putN, if_pos hone'.symm, k2'.putT]
        have hP' : answerP ts3 ⟨sid, spre, o :: os⟩ ⟨e1, e2, one⟩ = (some (pairsA ⟨sid, spre, o :: os⟩ ⟨e1, e2, one⟩ ++ [(o, e2)], os), ts3) := by simp only [answerP, hnz, if_false, hidx]; rfl
        have := hsame ts3 t2 (pairsA ⟨sid, spre, o :: os⟩ ⟨e1, e2, one⟩ ++ [(o, e2)]) [(spre, id), (sid, eph), (spre, eph), (o, eph)] (by simp [pairsA]; omega) ⟨rfl, s2, hid, n1, rfl, s1, heph, n2, rfl, s2, heph, n2, rfl, k1, heph, n2, trivial⟩ (by rw [hq]; simp [agr_comm id spre, agr_comm eph sid, agr_comm eph spre, agr_comm eph o]) hp13
        unfold answerT
        rw [hP']
        simp only
        rw [this]
        rfl
      | [], h => exact h.elim
  · -- answered once more
    rcases hq with ⟨hq, rfl⟩ | ⟨o, os, rfl, hq⟩
    · match bones, h3 with
      | [], _ =>
        have hz : one = zk := hone
        have hP' : answerP ts3 ⟨sid, spre, []⟩ ⟨e1, e2, one⟩ = (some (pairsA ⟨sid, spre, []⟩ ⟨e1, e2, one⟩, []), ts3) := by simp [answerP, hz]
        have := hsame ts3 t2 (pairsA ⟨sid, spre, []⟩ ⟨e1, e2, one⟩) [(spre, id), (sid, eph), (spre, eph)] (by simp [pairsA]; omega) ⟨rfl, s2, hid, n1, rfl, s1, heph, n2, rfl, s2, heph, n2, trivial⟩ (by rw [hq]; simp [agr_comm id spre, agr_comm eph sid, agr_comm eph spre]) hp13
        simp only [List.drop_nil, if_true]
        unfold answerT
        rw [hP']
        simp only
        rw [this]
      | _ :: _, h => exact h.elim
    · match bones, h3 with
      | y :: ys, ⟨k1, k2, k3⟩ =>
        have hone' : one = y := hone
        have hnz : one ≠ zk := by rw [hone']; exact k2.nz
        have hno : o ∉ os := (List.nodup_cons.1 h5).1
        have hidx : idxF one ts3 os 0 = (none, ts3) := idxF_none (k3.mono hp3) (fun z hz => by rw [hone']; exact (k3.mono hp3).ne t2 k1 (k2.mono hp3) hno z hz)
        simp only [List.drop_succ_cons, List.drop_zero, reduceCtorEq, if_false]
        unfold answerT
        simp only [answerP, hnz, if_false, hidx]
      | [], h => exact h.elim
  · -- what is left
    refine ⟨h1.mono hp3, h2.mono hp3, ?_, ⟨s1, s2, fun z hz => s3 z (List.mem_of_mem_drop hz), by simp only [List.length_drop]; omega⟩, (List.drop_sublist 1 sones).nodup h5⟩
    rw [hrest]
    match sones, bones, h3 with
    | [], [], _ => exact trivial
    | o :: os, y :: ys, ⟨k1, k2, k3⟩ => exact k3.mono hp3
    | [], _ :: _, h => exact h.elim
    | _ :: _, [], h => exact h.elim
  · -- what stands there
    have hqq : qs = qsOf id eph ⟨sid, spre, sones⟩ := by
      rcases hq with ⟨hq, rfl⟩ | ⟨o, os, rfl, hq⟩
      · rw [hq]; rfl
      · rw [hq]; rfl
    rw [← hqq]
    have hnl := goG_nm qs ts [] [] trivial
    rw [List.nil_append] at hnl
    have hgp : (goG ts [] qs).2 <+: ts1 := by rw [ht1, hgo]; exact put_pre _ _
    have hsn : Nm ts1 ⟨2, hello, (goG ts [] qs).1⟩ k := by rw [ht1, hgo, hk]; exact Nm.put _ _
    refine ⟨(goG ts [] qs).1, (hnl.mono hgp).mono hp13, hsn.mono hp13, fun y hy => ?_⟩
    rw [ht3] at hy
    rcases mem_put hy with hy | rfl
    · rcases mem_put hy with hy | rfl
      · rw [ht1, hgo] at hy
        rcases mem_put hy with hy | rfl
        · rcases goG_mem qs ts [] y hy with hy | hy
          · exact .inl hy
          · exact .inr (.inl hy)
        · exact .inr (.inr (.inl rfl))
      · exact .inr (.inr (.inr (.inl rfl)))
    · exact .inr (.inr (.inr (.inr rfl)))
end Go.Cab

/- Secrets, plain: the terms. -/
-- TEXTS
-- KIT
namespace Go.Cab
open Classical

def txRatchet : List UInt8 := [114, 97, 116, 99, 104, 101, 116]
def txSender : List UInt8 := [115, 101, 110, 100, 101, 114]
def txMember : List UInt8 := [109, 101, 109, 98, 101, 114, 32]
def txCheck : List UInt8 := [99, 104, 101, 99, 107]
def txFirst : List UInt8 := [102, 105, 114, 115, 116]
/-- The terms of a step. -/
def rT1 (k s : List UInt8) : Term := ⟨2, txRatchet ++ [47, 49], [k, s]⟩
def rT2 (k s : List UInt8) : Term := ⟨2, txRatchet ++ [47, 50], [k, s]⟩
def senT (k : List UInt8) : Term := ⟨2, txSender, [k]⟩
def memT (it : List UInt8) (k : List UInt8) : Term := ⟨2, txMember ++ it, [k]⟩
def chkT (k : List UInt8) : Term := ⟨2, txCheck, [k]⟩
theorem rT1_ok {k s : List UInt8} (h : k.length = 32) (h' : s.length = 32) : TermOk (rT1 k s) := ⟨by simp [rT1], by simp [rT1, txRatchet], by simp [rT1], by simp [rT1, h, h']⟩
theorem rT2_ok {k s : List UInt8} (h : k.length = 32) (h' : s.length = 32) : TermOk (rT2 k s) := ⟨by simp [rT2], by simp [rT2, txRatchet], by simp [rT2], by simp [rT2, h, h']⟩
theorem senT_ok {k : List UInt8} (h : k.length = 32) : TermOk (senT k) := ⟨by simp [senT], by simp [senT, txSender], by simp [senT], by simp [senT, h]⟩
theorem chkT_ok {k : List UInt8} (h : k.length = 32) : TermOk (chkT k) := ⟨by simp [chkT], by simp [chkT, txCheck], by simp [chkT], by simp [chkT, h]⟩
theorem memT_ok {it k : List UInt8} (hi : it.length < 1000) (h : k.length = 32) : TermOk (memT it k) := ⟨by simp [memT], by simp [memT, txMember]; omega, by simp [memT], by simp [memT, h]⟩
end Go.Cab

/- Secrets, plain: what a seed makes; made again it is the same. -/
-- TEXTS
-- KIT
namespace Go.Cab
open Classical

/-- A member's secret, the chain and the key behind the step, and the table. -/
def updV (ts : List Term) (it k seed : List UInt8) : List UInt8 × List UInt8 × List UInt8 × List Term :=
  let t1 := putT ts (memT it seed)
  let t2 := putT t1 (senT seed)
  let n := twoV t2 txRatchet [k, nameK (putN t1 (senT seed))]
  (nameK (putN ts (memT it seed)), n.1.1, n.1.2, n.2)
/-- .. and what is checked by. -/
structure Upd (ts us : List Term) (it k seed m s c' k' chk : List UInt8) : Prop where
  tok : TsOk us
  len : us.length ≤ ts.length + 5
  pre : ts <+: us
  mem : Nm us (memT it seed) m
  sen : Nm us (senT seed) s
  chn : Nm us (rT1 k s) c'
  key : Nm us (rT2 k s) k'
  chk : Nm us (chkT c') chk
  kinds : (∀ y ∈ ts, y.kind ≠ 6) → ∀ y ∈ us, y.kind ≠ 6
theorem Upd.again {ts us : List Term} {it k seed m s c' k' chk : List UInt8} (h : Upd ts us it k seed m s c' k' chk) : updV us it k seed = (m, c', k', us) := by
  unfold updV twoV
  simp only [h.mem.putT, h.mem.putN, h.sen.putT, h.sen.putN]
  have h1 : Nm us ⟨2, txRatchet ++ [47, 49], [k, s]⟩ c' := h.chn
  have h2 : Nm us ⟨2, txRatchet ++ [47, 50], [k, s]⟩ k' := h.key
  rw [h1.putT, h1.putN, h2.putT, h2.putN]
theorem upd_law {ts : List Term} (hts : TsOk ts) (hl : ts.length + 20 < 90000) {it k seed : List UInt8} (hi : it.length < 1000) (hk : k.length = 32) (hs : seed.length = 32) {m c' k' : List UInt8} {t3 : List Term} (h : updV ts it k seed = (m, c', k', t3)) :
    ∃ s, Upd ts (putT t3 (chkT c')) it k seed m s c' k' (nameK (putN t3 (chkT c'))) ∧ m.length = 32 ∧ c'.length = 32 ∧ k'.length = 32 ∧ t3.length ≤ ts.length + 4 := by
  have wf : ∀ (t : List UInt8) (ks : List (List UInt8)), WfT ⟨2, t, ks⟩ := fun t ks => ⟨by simp, by simp⟩
  have a1 := putT_len ts (memT it seed)
  have b1 := hts.put (memT_ok hi hs) (wf _ _) (by omega)
  have c1 := Nm.put ts (memT it seed)
  have d1 := put_pre ts (memT it seed)
  have e1 : ∀ y ∈ putT ts (memT it seed), y ∈ ts ∨ y.kind = 2 := fun y hy => (mem_put hy).imp id (fun e => by subst e; rfl)
  unfold updV at h
  simp only [Prod.mk.injEq] at h
  obtain ⟨h1, h2, h3, h4⟩ := h
  rw [h1] at c1
  generalize putT ts (memT it seed) = t1 at *
  have a2 := putT_len t1 (senT seed)
  have b2 := b1.put (senT_ok hs) (wf _ _) (by omega)
  have c2 := Nm.put t1 (senT seed)
  have d2 := put_pre t1 (senT seed)
  have e2 : ∀ y ∈ putT t1 (senT seed), y ∈ t1 ∨ y.kind = 2 := fun y hy => (mem_put hy).imp id (fun e => by subst e; rfl)
  generalize nameK (putN t1 (senT seed)) = s at *
  generalize putT t1 (senT seed) = t2 at *
  have hsl := c2.len
  unfold twoV at h2 h3 h4
  simp only at h2 h3 h4
  have a3 := putT_len t2 (rT1 k s)
  have b3 := b2.put (rT1_ok hk hsl) (wf _ _) (by omega)
  have c3 := Nm.put t2 (rT1 k s)
  have d3 := put_pre t2 (rT1 k s)
  have e3 : ∀ y ∈ putT t2 (rT1 k s), y ∈ t2 ∨ y.kind = 2 := fun y hy => (mem_put hy).imp id (fun e => by subst e; rfl)
  rw [show nameK (putN t2 (rT1 k s)) = c' from h2] at c3
  have h3' : nameK (putN (putT t2 (rT1 k s)) (rT2 k s)) = k' := h3
  have h4' : putT (putT t2 (rT1 k s)) (rT2 k s) = t3 := h4
  clear h2 h3 h4
  generalize putT t2 (rT1 k s) = t2' at *
  have a4 := putT_len t2' (rT2 k s)
  have b4 := b3.put (rT2_ok hk hsl) (wf _ _) (by omega)
  have c4 := Nm.put t2' (rT2 k s)
  have d4 := put_pre t2' (rT2 k s)
  have e4 : ∀ y ∈ putT t2' (rT2 k s), y ∈ t2' ∨ y.kind = 2 := fun y hy => (mem_put hy).imp id (fun e => by subst e; rfl)
  rw [h3'] at c4
  rw [h4'] at a4 b4 c4 d4 e4
  have hc := c3.len
  have a5 := putT_len t3 (chkT c')
  have b5 := b4.put (chkT_ok hc) (wf _ _) (by omega)
  have c5 := Nm.put t3 (chkT c')
  have d5 := put_pre t3 (chkT c')
  have e5 : ∀ y ∈ putT t3 (chkT c'), y ∈ t3 ∨ y.kind = 2 := fun y hy => (mem_put hy).imp id (fun e => by subst e; rfl)
  refine ⟨s, ⟨b5, by omega, (((d1.trans d2).trans d3).trans d4).trans d5, (((c1.mono d2).mono d3).mono d4).mono d5, ((c2.mono d3).mono d4).mono d5, (c3.mono d4).mono d5, c4.mono d5, c5, fun hk y hy => ?_⟩, c1.len, hc, c4.len, by omega⟩
  rcases e5 y hy with hy | hy
  · rcases e4 y hy with hy | hy
    · rcases e3 y hy with hy | hy
      · rcases e2 y hy with hy | hy
        · rcases e1 y hy with hy | hy
          · exact hk y hy
          · omega
        · omega
      · omega
    · omega
  · omega
end Go.Cab

/- Chain: what it calls: Clone of waits, known, say; the table's Seal and Mark. -/
-- TEXTS
-- KIT
namespace Go.Cab
open Go.RowKit
open Classical
def fb521 : AC := (.seq (.reg [⟨(.some 2), .none, (.mov (.const (.slice .none 0 0))), [], .none⟩]) (.seq (.seq (.reg [⟨(.some 3), .none, (.mov (.tmp 0)), [], .none⟩, ⟨(.some 4), .none, (.ef (.isnil .false) [(.tmp 3)]), [], .none⟩]) (.cond (.tmp 4) (.seq (.reg [⟨(.some 2), .none, (.mov (.const (.slice .none 0 0))), [], .none⟩]) .ret) .skip)) (.seq (.reg [⟨(.some 5), .none, (.ef (.bown 83 65 (.st [32, 1, 32] [(.arr 1 (List.replicate 32 (.lit (bn 0)))), (.lit (jn 0)), (.arr 1 (List.replicate 32 (.lit (bn 0))))]) 0 []) []), [], .none⟩, ⟨(.some 6), .none, (.mov (.tmp 0)), [], .none⟩, ⟨(.some 7), .none, (.append 83 65 72 (.tmp 5) (.tmp 6)), [], .none⟩, ⟨(.some 2), .none, (.mov (.tmp 7)), [], .none⟩]) .ret)))
def fc521 : FC := ⟨1, 8, [(.tmp 2)], fb521⟩
theorem fc521_eq : compF Go.Proofs.Tryd.prog 29 = some fc521 := by kernel_rfl

theorem areg_b2sv {P : Program} {s : AS} {K : AS → Prop} {xs : List AOp} {d : Option Tmp} {x : Operand} {u : AV} {a : List UInt8} (ex : s.ev x = u) (hx : listB s.blk 1 u = some (bl a)) (h1 : u.isLit = false)
    (h : AReg P xs (s.put d (.lit (tx a))) K) : AReg P (⟨d, none, .rd .b2sv [x], [], none⟩ :: xs) s K := by
  refine AOp.ex_go (s' := s.put d (.lit (tx a))) ?_ h
  have hro : (AOp.ro ⟨d, none, .rd .b2sv [x], [], none⟩ s.nr) = tt := by funext b; rfl
  have hb : (fun b => if tt b then s.blk b else none) = s.blk := by funext b; rfl
  have e : rdB s.blk .b2sv [u] = some (.lit (tx a)) := by
    simp only [rdB, hx, Option.bind_some, bytes_bl, h1, Option.map_some, strOf_bl]
    rfl
  simp only [AOp.ex, AOp.ex0, AOp.mineB, if_true, ex_rd, List.map_cons, List.map_nil, ex, hro, hb, e, Option.map_some]

set_option maxHeartbeats 1000000 in
theorem cloneW_row (els : List AV) (hn : els.length < 100000) : PCall Go.Proofs.Tryd.prog 29 [.sl 65 els] (.row 83 65 els) := by
  have h521 := fc521_eq
  refine PCall.of h521 rfl ?_; show AC.wp _ fb521 (AS.init [.sl 65 els] 1 8) (fun x s => match x with | .exit _ => False | _ => Fin [(.tmp 2)] s _); unfold fb521 AS.init
  refine wp_sr (by simp [push_cast]; exact rfl) ?_
  refine wp_seq' (wp_seq' (wp_rg ?_))
  refine areg_run 1 (by simp [push_cast]; exact rfl) ?_
  refine areg_nils rfl fun b hb => areg_nil ?_
  cases b with
  | true =>
    obtain rfl := hb rfl
    refine wp_cond_t rfl (wp_sr (by simp [push_cast]; exact rfl) (wp_ret' ?_))
    exact ⟨2, rfl, .inl ⟨rfl, rfl⟩⟩
  | false =>
    refine wp_cond_f rfl (wp_skip' (wp_sg ?_))
    refine areg_bown (vs := []) (els := []) rfl rfl (by intro t ht; cases ht) fun V => ?_
    refine areg_run 1 (by simp [push_cast]; exact rfl) ?_
    refine areg_ap (ys := els) rfl rfl (by simp [AS.ev, AS.coe]) (by simp [maxLen]; omega) (by simp; omega) fun V' => areg_end (by simp [push_cast]; exact rfl) (wp_ret' ?_)
    exact fin_row rfl rfl
theorem cloneW_call (els : List AV) (hn : els.length < 100000) : PCall Go.Proofs.Tryd.prog 29 [.sl 65 els] (.val (.sl 65 els)) := (cloneW_row els hn).sealed

/-! ### What one knows -/
structure Rat where
  known : Bool
  open_ : Bool
  key : List UInt8
  chain : List UInt8
def ratA (r : Rat) : AV := .st [1, 1, 32, 32] [.lit (.bool r.known), .lit (.bool r.open_), keyA r.key, keyA r.chain]
def keysA (rs : List Rat) (ws : List AV) : AV := .st [528, 1] [.arr 66 (rs.map ratA), .sl 65 ws]
def rat0 : Rat := ⟨false, false, zk, zk⟩
def key2 : List UInt8 := 2 :: List.replicate 31 0
def key1 : List UInt8 := 1 :: List.replicate 31 0
def ratK (k : List UInt8) : Rat := ⟨true, false, key2, k⟩
def knownR (k : List UInt8) : List Rat := [rat0, ratK k, rat0, rat0, rat0, rat0, rat0, rat0]

/-- The table's Put, as a call of the kit. -/
theorem put_k {H : List (Option Blk)} {t : Tb} {V0 : Value} {ts0 ts : List Term} (hh : TbOk H t V0 ts0) (hn : ts.length < 100000) (x : Term) (hx : TermOk x) : KC Go.Proofs.Tryd.prog 22 [.ptr t.b t.l 0 [], .lit (jn x.kind), .lit (tx x.text), .sl 32 (klA x.keys)] H t ts (keyA (nameK (putN ts x))) (putT ts x) :=
  KC.of hh fun H V h => put_call h hn x hx

def sealT (k b s : List UInt8) : Term := ⟨6, s, [k, b]⟩

/-! ### Operations of the statement -/
def sayO (n : Nat) (m : List UInt8) : OpV := ⟨1, n, [key1], 7, [], zk, zk, m, [⟨2, zk, 0, 0, []⟩]⟩

theorem AVle.nilS (esz : Nat) : AVle (.lit (.slice none 0 0)) (.sl esz []) := fun Imm w cs h => by
  cases h with | lit _ hs => exact .slnil esz
theorem PCall.relLe {P : Program} {f : FuncId} {args : List AV} {r r' : AV} (h : PCall P f args (.val r)) (hr : RelLe r r') (hn : r' ≠ .any) : PCall P f args (.val r') := fun w St Vs a b => by
  refine Calls.mono (h w St Vs a b) fun e w' ⟨V, Imm, h1, h2, h3, h4⟩ => ⟨V, Imm, h1, h2, h3, ?_⟩
  exact ⟨hr _ _ _ h4.1, hn⟩

theorem fill_st {s : AS} {ns : List Nat} {fs : List AV} {i n : Nat} {x : Operand} {rest : List (Nat × Operand)} {v f : AV} {out : Option AV} (hv : s.ev x = v) (hs : ns[i]? = some n) (hf : fs[i]? = some f) (ht : v.isTup = false) (hz : v.sz = n) (h : fillAV s (.st ns (fs.set i v)) rest = out) : fillAV s (.st ns fs) ((i, x) :: rest) = out := by
  subst h
  rw [fillAV]
  simp only [AV.sub, hs, hf, hv, ht, hz, and_self, if_true]
  rw [AV.upd, AV.upd]
theorem fill_ar {s : AS} {n : Nat} {fs : List AV} {i : Nat} {x : Operand} {rest : List (Nat × Operand)} {v f : AV} {out : Option AV} (hv : s.ev x = v) (hf : fs[i]? = some f) (ht : v.isTup = false) (hz : v.sz = n) (h : fillAV s (.arr n (fs.set i v)) rest = out) : fillAV s (.arr n fs) ((i, x) :: rest) = out := by
  subst h
  rw [fillAV]
  simp only [AV.sub, hf, hv, ht, hz, and_self, if_true]
  rw [AV.upd, AV.upd]
theorem areg_bd {P : Program} {s : AS} {K : AS → Prop} {xs : List AOp} {d : Option Tmp} {z z' : AV} {parts : List (Nat × Operand)} {fo : List Tmp} {ow : Option Tmp} (hf : fillAV s z parts = some z') (h : AReg P xs (s.put d z') K) : AReg P (⟨d, none, .build z parts, fo, ow⟩ :: xs) s K := by
  refine AOp.ex_go (s' := s.put d z') ?_ h
  simp only [AOp.ex, AOp.ex0, AOp.mineB, if_true, ex_build, hf, Option.map_some]
theorem areg_bsl {P : Program} {s : AS} {K : AS → Prop} {xs : List AOp} {d : Option Tmp} {esz n k : Nat} {z : AV} {els : List AV} {parts : List (Nat × Operand)} {fo : List Tmp} {ow : Option Tmp} (hf : fillAV s (.arr esz (List.replicate n z)) parts = some (.arr k els)) (h : AReg P xs (s.put d (.sl esz els)) K) : AReg P (⟨d, none, .bslice esz z n parts, fo, ow⟩ :: xs) s K := by
  refine AOp.ex_go (s' := s.put d (.sl esz els)) ?_ h
  simp only [AOp.ex, AOp.ex0, AOp.mineB, if_true, ex_bslice, hf, Option.map_some]

def r0A : AV := ratA rat0
theorem r0A_sz : r0A.sz = 66 := rfl
theorem r0A_agg : r0A.isAgg = true := rfl
theorem r0A_tup : r0A.isTup = false := rfl
theorem ratA_sz {r : Rat} (h1 : r.key.length = 32) (h2 : r.chain.length = 32) : (ratA r).sz = 66 := by simp [ratA, AV.sz, keyA, h1, h2]
theorem ratA_agg (r : Rat) : (ratA r).isAgg = true := rfl
theorem ratA_tup (r : Rat) : (ratA r).isTup = false := rfl

end Go.Cab

/- Chain: next. -/
-- TEXTS
-- KIT
namespace Go.Cab
open Go.RowKit
open Classical

theorem RelLe.tup {l m : List AV} (h : AVle (.tup l) (.tup m)) : RelLe (.tup l) (.tup m) := fun Imm w V hr => by
  rcases hr with hr | ⟨cs, hr, e⟩
  · cases hr
  · exact .inr ⟨cs, h _ _ _ hr, e⟩
theorem AVle.tupSt {ns : List Nat} {fs fs' vs vs' : List AV} (h : AVle (.st ns fs) (.st ns fs')) (k : AVle (.tup vs) (.tup vs')) : AVle (.tup (.st ns fs :: vs)) (.tup (.st ns fs' :: vs')) := fun Imm w cs hr => by
  cases hr with
  | tup1 _ _ c d h1 h2 => exact .tup1 (.st ns fs') vs' c d (h _ _ _ h1) (k _ _ _ h2)
theorem AVle.tupC {v : AV} {vs vs' : List AV} (k : AVle (.tup vs) (.tup vs')) : AVle (.tup (v :: vs)) (.tup (v :: vs')) := fun Imm w cs hr => by
  cases hr with
  | tup1 _ _ c d h1 h2 => exact .tup1 v vs' c d h1 (k _ _ _ h2)

theorem KC.args {P : Program} {f : FuncId} {vs vs' : List AV} {H : List (Option Blk)} {t : Tb} {ts ts' : List Term} {r : AV} (hl : ArgLe vs vs') (h : KC P f vs' H t ts r ts') : KC P f vs H t ts r ts' := fun V L => XCall.args hl (h V L)
def txSay : List UInt8 := [115, 97, 121]
theorem txSay_len : txSay.length = 3 := rfl
theorem tx_say : Value.string ⟨⟨[115, 97, 121]⟩⟩ = tx txSay := rfl
def ksA (A ws : List AV) : AV := .st [528, 1] [.arr 66 A, .sl 65 ws]
def ks0 : AV := .st [528, 1] [.arr 66 [r0A, r0A, r0A, r0A, r0A, r0A, r0A, r0A], .lit (.slice none 0 0)]
theorem ks0_le : AVle ks0 (ksA [r0A, r0A, r0A, r0A, r0A, r0A, r0A, r0A] []) := AVle.st1 (AVle.refl _) (AVle.st1 (AVle.nilS 65) AVle.st0)
theorem two_k {H : List (Option Blk)} {t : Tb} {V0 : Value} {ts0 ts : List Term} (hh : TbOk H t V0 ts0) (hn : ts.length + 1 < 100000) {s : List UInt8} (hs : s.length < 90000) {ks : List (List UInt8)} (hk : ks.length < 100000) (h32 : ∀ k ∈ ks, k.length = 32) :
    KC Go.Proofs.Tryd.prog 78 [freeI t.b t.l, .lit (tx s), .sl 32 (klA ks)] H t ts (.tup [keyA (twoV ts s ks).1.1, keyA (twoV ts s ks).1.2]) (twoV ts s ks).2 := KC.of hh fun H V h => two_call h hn hs hk h32

/-- What one's next message is sealed by, and what is kept. -/
def nextV (ts : List Term) (c : List UInt8) : (List UInt8 × List UInt8) × List Term := twoV ts txSay [c]
theorem tgt_two (x y z : AV) : tgtA Go.Proofs.Tryd.prog (.dir 78) [x, y, z] = some (78, [x, y, z]) := by kernel_rfl

end Go.Cab

/- Secrets: the blocks of what somebody knows while an operation is done to it; calls upon it, in one form. -/
-- TEXTS
-- KIT
namespace Go.Cab
open Go.RowKit
open Classical

/-- A member's secret that waits. -/
structure WaitV where
  of_ : List UInt8
  who : Int
  key : List UInt8
def waitA (w : WaitV) : AV := .st [32, 1, 32] [keyA w.of_, .lit (ji w.who), keyA w.key]
/-- What somebody knows while an operation is done to it. -/
structure StV where
  rats : List Rat
  waits : List WaitV
  me : Int
  id : List UInt8
  o : OpV
  of_ : OpV
  got : List (List UInt8)
/-- Where it lies. -/
structure Sb where
  b : Nat
  l : Nat × Nat
  c : Nat
def stA (t : Tb) (S : Sb) (x : StV) (Vc : Value) : AV := .st [1, 529, 1, 32, 71, 71, 1] [freeI t.b t.l, .st [528, 1] [.arr 66 (x.rats.map ratA), .own S.c Vc], .lit (ji x.me), keyA x.id, opA x.o, opA x.of_, .sl 32 (klA x.got)]
def sbk (t : Tb) (S : Sb) (x : StV) (Vc : Value) : Blk := .box S.l 706 (stA t S x Vc)
def swk (x : StV) (Vc : Value) : Blk := .row 83 Vc 65 (x.waits.map waitA) 0
structure StOk (H : List (Option Blk)) (t : Tb) (S : Sb) (x : StV) (Vc : Value) : Prop where
  bc : S.b ≠ S.c
  nb : S.b ≠ t.b ∧ S.b ≠ t.j ∧ S.b ≠ t.m
  nc : S.c ≠ t.b ∧ S.c ≠ t.j ∧ S.c ≠ t.m
  hb : H[S.b]? = some (some (sbk t S x Vc))
  hc : H[S.c]? = some (some (swk x Vc))
def stB (H : List (Option Blk)) (S : Sb) (Y Z : Blk) : List (Option Blk) := (H.set S.b (some Y)).set S.c (some Z)
def stOf (H : List (Option Blk)) (t : Tb) (S : Sb) (x : StV) (Vc : Value) : List (Option Blk) := stB H S (sbk t S x Vc) (swk x Vc)
section
variable {H : List (Option Blk)} {t : Tb} {S : Sb} {x x' : StV} {V Vc : Value} {ts : List Term}
theorem stOf_len (H : List (Option Blk)) (t : Tb) (S : Sb) (x : StV) (Vc : Value) : (stOf H t S x Vc).length = H.length := by simp [stOf, stB]
theorem StOk.lb (h : StOk H t S x Vc) : S.b < H.length := (List.getElem?_eq_some_iff.1 h.hb).1
theorem StOk.lc (h : StOk H t S x Vc) : S.c < H.length := (List.getElem?_eq_some_iff.1 h.hc).1
theorem StOk.self (h : StOk H t S x Vc) : stOf H t S x Vc = H := by
  unfold stOf stB
  rw [set_same h.hb, set_same h.hc]
theorem StOk.of (h : StOk H t S x Vc) (x' : StV) (V' : Value) : StOk (stOf H t S x' V') t S x' V' :=
  ⟨h.bc, h.nb, h.nc, by simp [stOf, stB, h.lb, h.bc.symm], by simp [stOf, stB, h.lc]⟩
theorem StOk.of_of (h : StOk H t S x Vc) (x1 x2 : StV) (V1 V2 : Value) : stOf (stOf H t S x1 V1) t S x2 V2 = stOf H t S x2 V2 := by
  unfold stOf stB
  rw [List.set_comm _ _ h.bc.symm, List.set_set, List.set_set]
theorem StOk.app (h : StOk H t S x Vc) (R : List (Option Blk)) : StOk (H ++ R) t S x Vc :=
  ⟨h.bc, h.nb, h.nc, by rw [List.getElem?_append_left h.lb]; exact h.hb, by rw [List.getElem?_append_left h.lc]; exact h.hc⟩
theorem StOk.of_app (h : StOk H t S x Vc) (R : List (Option Blk)) (x' : StV) (V' : Value) : stOf (H ++ R) t S x' V' = stOf H t S x' V' ++ R := by
  unfold stOf stB
  rw [List.set_append_left _ _ h.lb, List.set_append_left _ _ (by simpa using h.lc)]
theorem StOk.tb (h : StOk H t S x Vc) (hh : TbOk H t V ts) (x' : StV) (V' : Value) : TbOk (stOf H t S x' V') t V ts := by
  obtain ⟨a1, a2, a3⟩ := h.nb
  obtain ⟨b1, b2, b3⟩ := h.nc
  refine ⟨hh.bj, hh.bm, hh.jm, ?_, ?_, ?_⟩ <;> unfold stOf stB
  · rw [List.getElem?_set_ne b1, List.getElem?_set_ne a1]; exact hh.hb
  · rw [List.getElem?_set_ne b2, List.getElem?_set_ne a2]; exact hh.hj
  · rw [List.getElem?_set_ne b3, List.getElem?_set_ne a3]; exact hh.hm
/-- Another table beside it. -/
theorem StOk.tbOf (h : StOk H t S x Vc) (V' : Value) (ts' : List Term) : StOk (tbOf H t V' ts') t S x Vc := by
  obtain ⟨a1, a2, a3⟩ := h.nb
  obtain ⟨b1, b2, b3⟩ := h.nc
  refine ⟨h.bc, h.nb, h.nc, ?_, ?_⟩ <;> unfold Cab.tbOf
  · rw [List.getElem?_set_ne a3.symm, List.getElem?_set_ne a2.symm, List.getElem?_set_ne a1.symm]; exact h.hb
  · rw [List.getElem?_set_ne b3.symm, List.getElem?_set_ne b2.symm, List.getElem?_set_ne b1.symm]; exact h.hc
theorem StOk.comm (h : StOk H t S x Vc) (V' : Value) (ts' : List Term) (x' : StV) (Vc' : Value) : stOf (Cab.tbOf H t V' ts') t S x' Vc' = Cab.tbOf (stOf H t S x' Vc') t V' ts' := by
  obtain ⟨a1, a2, a3⟩ := h.nb
  obtain ⟨b1, b2, b3⟩ := h.nc
  unfold stOf stB Cab.tbOf
  rw [List.set_comm _ _ a3.symm, List.set_comm _ _ a2.symm, List.set_comm _ _ a1.symm, List.set_comm _ _ b3.symm, List.set_comm _ _ b2.symm, List.set_comm _ _ b1.symm]
end

/-- A call upon it, by a caller with the table and it among its blocks. -/
def SC (P : Program) (f : FuncId) (vs : List AV) (H : List (Option Blk)) (t : Tb) (S : Sb) (x : StV) (ts : List Term) (r : AV) (x' : StV) (ts' : List Term) : Prop :=
  ∀ V Vc L, XCall P f vs (tbOf (stOf H t S x Vc) t V ts ++ L) fun r' H' => r' = r ∧ ∃ V' Vc', H' = tbOf (stOf H t S x' Vc') t V' ts' ++ L
/-- The blocks of both. -/
structure StT (H : List (Option Blk)) (t : Tb) (S : Sb) (x : StV) (Vc V : Value) (ts : List Term) : Prop where
  tb : TbOk H t V ts
  st : StOk H t S x Vc
section
variable {H : List (Option Blk)} {t : Tb} {S : Sb} {x x' : StV} {V Vc : Value} {ts ts' : List Term}
theorem StT.of (h : StT H t S x Vc V ts) (x' : StV) (Vc' V' : Value) (ts' : List Term) : StT (tbOf (stOf H t S x' Vc') t V' ts') t S x' Vc' V' ts' :=
  ⟨(h.st.tb h.tb x' Vc').of V' ts', (h.st.of x' Vc').tbOf V' ts'⟩
theorem StT.app (h : StT H t S x Vc V ts) (R : List (Option Blk)) : StT (H ++ R) t S x Vc V ts := ⟨h.tb.app R, h.st.app R⟩
theorem StT.self (h : StT H t S x Vc V ts) : tbOf (stOf H t S x Vc) t V ts = H := by rw [h.st.self, h.tb.self]
theorem StT.len (H : List (Option Blk)) (t : Tb) (S : Sb) (x : StV) (Vc V : Value) (ts : List Term) : (tbOf (stOf H t S x Vc) t V ts).length = H.length := by rw [tbOf_len, stOf_len]
theorem StT.of_of (h : StT H t S x Vc V ts) (x1 x2 : StV) (Vc1 Vc2 V1 V2 : Value) (ts1 ts2 : List Term) : tbOf (stOf (tbOf (stOf H t S x1 Vc1) t V1 ts1) t S x2 Vc2) t V2 ts2 = tbOf (stOf H t S x2 Vc2) t V2 ts2 := by
  rw [(h.st.of x1 Vc1).comm, h.st.of_of, (h.st.tb h.tb x2 Vc2).of_of]
theorem StT.of_app (h : StT H t S x Vc V ts) (R : List (Option Blk)) (x' : StV) (Vc' V' : Value) (ts' : List Term) : tbOf (stOf (H ++ R) t S x' Vc') t V' ts' = tbOf (stOf H t S x' Vc') t V' ts' ++ R := by
  rw [h.st.of_app, (h.st.tb h.tb x' Vc').of_app]
theorem stB_len (H : List (Option Blk)) (S : Sb) (Y Z : Blk) (t : Tb) (V : Value) (ts : List Term) : (tbOf (stB H S Y Z) t V ts).length = H.length := by rw [tbOf_len]; simp [stB]
theorem StT.gb (h : StT H t S x Vc V ts) (Y Z : Blk) (V' : Value) (ts' : List Term) (L : List (Option Blk)) : (tbOf (stB H S Y Z) t V' ts' ++ L)[S.b]? = some (some Y) := by
  obtain ⟨a1, a2, a3⟩ := h.st.nb
  rw [List.getElem?_append_left (by rw [stB_len]; exact h.st.lb)]
  unfold tbOf stB
  rw [List.getElem?_set_ne a3.symm, List.getElem?_set_ne a2.symm, List.getElem?_set_ne a1.symm, List.getElem?_set_ne h.st.bc.symm, List.getElem?_set_self h.st.lb]
theorem StT.gc (h : StT H t S x Vc V ts) (Y Z : Blk) (V' : Value) (ts' : List Term) (L : List (Option Blk)) : (tbOf (stB H S Y Z) t V' ts' ++ L)[S.c]? = some (some Z) := by
  obtain ⟨a1, a2, a3⟩ := h.st.nc
  rw [List.getElem?_append_left (by rw [stB_len]; exact h.st.lc)]
  unfold tbOf stB
  rw [List.getElem?_set_ne a3.symm, List.getElem?_set_ne a2.symm, List.getElem?_set_ne a1.symm, List.getElem?_set_self (by simpa using h.st.lc)]
theorem StT.gbs (h : StT H t S x Vc V ts) (Y Y' Z : Blk) (V' : Value) (ts' : List Term) (L : List (Option Blk)) : (tbOf (stB H S Y Z) t V' ts' ++ L).set S.b (some Y') = tbOf (stB H S Y' Z) t V' ts' ++ L := by
  obtain ⟨a1, a2, a3⟩ := h.st.nb
  rw [List.set_append_left _ _ (by rw [stB_len]; exact h.st.lb)]
  unfold tbOf stB
  rw [List.set_comm _ _ a3.symm, List.set_comm _ _ a2.symm, List.set_comm _ _ a1.symm, List.set_comm _ _ h.st.bc.symm, List.set_set]
theorem SC.of {P : Program} {f : FuncId} {vs : List AV} {r : AV} {x0 : StV} {Vc0 V0 : Value} {ts0 : List Term} (hh : StT H t S x0 Vc0 V0 ts0)
    (h : ∀ H V Vc, StT H t S x Vc V ts → XCall P f vs H fun r' H' => r' = r ∧ ∃ V' Vc', H' = tbOf (stOf H t S x' Vc') t V' ts') : SC P f vs H t S x ts r x' ts' := fun V Vc L => by
  have h1 := hh.of x Vc V ts
  refine XCall.mono (h _ V Vc (h1.app L)) ?_
  rintro r' H' ⟨e, V', Vc', h2⟩
  exact ⟨e, V', Vc', by rw [h2, h1.of_app, hh.of_of]⟩
/-- A call of the kit beside it. -/
theorem KC.st {P : Program} {f : FuncId} {vs : List AV} {r : AV} {Vc0 V0 : Value} {x0 : StV} {ts0 : List Term} (hh : StT H t S x0 Vc0 V0 ts0) (x : StV) (Vc : Value)
    (h : ∀ H V, TbOk H t V ts → XCall P f vs H fun r' H' => r' = r ∧ ∃ V', H' = tbOf H t V' ts') : KC P f vs (stOf H t S x Vc) t ts r ts' :=
  KC.of (hh.st.tb hh.tb x Vc) h
end
theorem areg_kH {P : Program} {N : Nat} {tm : List AV} {L H : List (Option Blk)} {t : Tb} {V : Value} {ts ts' : List Term} {r : AV} {K : AS → Prop} {xs : List AOp} {d : Option Tmp} {g : XT} {ys : List Operand} {keep fresh : List Tmp} {fo : List Tmp} {ow : Option Tmp} {vs : List AV} {f : FuncId}
    (us : List AV) (hN : H.length = N) (ha : (ys.map fun x => AS.ev ⟨N, tm, tbOf H t V ts ++ L⟩ x) = us) (ht : ∀ L, tgtH P (tbOf H t V ts ++ L) g us = some (f, vs)) (hc : KC P f vs H t ts r ts') (hlt : ∀ t' ∈ fresh, t' < L.length)
    (hk : ∀ t' ∈ keep, ∀ b, (AS.ev ⟨N, tm, tbOf H t V ts ++ L⟩ (.tmp t')).place = some b → N ≤ b)
    (h : ∀ V', AReg P xs { AS.put ⟨N, tm, tbOf H t V ts ++ L⟩ d r with hp := tbOf H t V' ts' ++ L } K) : AReg P (⟨d, none, .xc g ys keep fresh, fo, ow⟩ :: xs) ⟨N, tm, tbOf H t V ts ++ L⟩ K := by
  subst hN
  refine areg_xfH (us := us) (K' := fun r' H' => r' = r ∧ ∃ V', H' = tbOf H t V' ts' ++ L) ha (fun E _ => by rw [setE_cat _ _ (tbOf_len _ _ _ _)]; exact ht _) (fun E _ => hc.xf V L E) ⟨_, _, rfl, .slice none 0 0, rfl⟩ (fun t' ht' => by simp [tbOf_len]; exact hlt t' ht') (fun r' hp' hK => ?_) ?_
  · obtain ⟨_, V', rfl⟩ := hK
    refine ⟨fun t' ht' b hb => ?_, by simp [tbOf_len]⟩
    have hge := hk t' ht' b hb
    simp only
    rw [List.getElem?_append_right (by rw [tbOf_len]; exact hge), List.getElem?_append_right (by rw [tbOf_len]; exact hge), tbOf_len, tbOf_len]
  · rintro r' hp' ⟨rfl, V', rfl⟩
    exact h V'
theorem areg_sc {P : Program} {N : Nat} {tm : List AV} {L H : List (Option Blk)} {t : Tb} {S : Sb} {x x' : StV} {V Vc : Value} {ts ts' : List Term} {r : AV} {K : AS → Prop} {xs : List AOp} {d : Option Tmp} {g : XT} {ys : List Operand} {keep fresh : List Tmp} {fo : List Tmp} {ow : Option Tmp} {vs : List AV} {f : FuncId}
    (us : List AV) (hN : H.length = N) (ha : (ys.map fun y => AS.ev ⟨N, tm, tbOf (stOf H t S x Vc) t V ts ++ L⟩ y) = us) (ht : tgtA P g us = some (f, vs)) (hc : SC P f vs H t S x ts r x' ts') (hlt : ∀ t' ∈ fresh, t' < L.length)
    (hk : ∀ t' ∈ keep, ∀ b, (AS.ev ⟨N, tm, tbOf (stOf H t S x Vc) t V ts ++ L⟩ (.tmp t')).place = some b → N ≤ b)
    (h : ∀ V' Vc', AReg P xs { AS.put ⟨N, tm, tbOf (stOf H t S x Vc) t V ts ++ L⟩ d r with hp := tbOf (stOf H t S x' Vc') t V' ts' ++ L } K) : AReg P (⟨d, none, .xc g ys keep fresh, fo, ow⟩ :: xs) ⟨N, tm, tbOf (stOf H t S x Vc) t V ts ++ L⟩ K := by
  subst hN
  have hl := fun x Vc V ts => StT.len H t S x Vc V ts
  refine areg_xf (us := us) (K' := fun r' H' => r' = r ∧ ∃ V' Vc', H' = tbOf (stOf H t S x' Vc') t V' ts' ++ L) ha ht (fun E _ => ?_) ⟨_, _, rfl, .slice none 0 0, .slice none 0 0, rfl⟩ (fun t' ht' => by simp [hl]; exact hlt t' ht') (fun r' hp' hK => ?_) ?_
  · refine XCall.mono (xf_of (hl x Vc V ts) (KG := fun r' G => r' = r ∧ ∃ V' Vc', G = tbOf (stOf H t S x' Vc') t V' ts') (fun L => XCall.mono (hc V Vc L) ?_) (fun r' G' hG => ?_) E) ?_
    · rintro r' H' ⟨h1, V', Vc', h2⟩
      exact ⟨_, ⟨h1, V', Vc', rfl⟩, h2⟩
    · obtain ⟨_, V', Vc', rfl⟩ := hG
      exact hl _ _ _ _
    · rintro r' H' ⟨hp', ⟨G', ⟨h1, V', Vc', rfl⟩, rfl⟩, h3⟩
      exact ⟨_, ⟨h1, V', Vc', rfl⟩, h3⟩
  · obtain ⟨_, V', Vc', rfl⟩ := hK
    refine ⟨fun t' ht' b hb => ?_, by simp [hl]⟩
    have hge := hk t' ht' b hb
    simp only
    rw [List.getElem?_append_right (by rw [hl]; exact hge), List.getElem?_append_right (by rw [hl]; exact hge), hl, hl]
  · rintro r' hp' ⟨rfl, V', Vc', rfl⟩
    exact h V' Vc'
end Go.Cab

/- Secrets: a step: the author's ratchet, two hashes by what somebody knows, a member's secret noted. -/
-- TEXTS
-- KIT
namespace Go.Cab
open Go.RowKit
open Classical
def fb620 : AC := (.seq (.reg [⟨(.some 2), .none, (.mov (.const (.pointer .none))), [], .none⟩]) (.seq (.reg [⟨(.some 3), .none, (.mov (.tmp 0)), [], .none⟩, ⟨(.some 4), .none, (.mov (.tmp 0)), [], .none⟩, ⟨(.some 5), .none, (.nilc (.tmp 4)), [], .none⟩, ⟨(.some 6), .none, (.faddr 563 4 (.tmp 5)), [], .none⟩, ⟨(.some 7), .none, (.faddr 0 0 (.tmp 6)), [], .none⟩, ⟨(.some 8), .none, (.load .false 1 (.tmp 7)), [], .none⟩, ⟨(.some 9), .none, (.nilc (.tmp 3)), [], .none⟩, ⟨(.some 10), .none, (.faddr 1 1 (.tmp 9)), [], .none⟩, ⟨(.some 11), .none, (.faddr 0 0 (.tmp 10)), [], .none⟩, ⟨(.some 12), .none, (.iaddrA 8 66 (.tmp 11) (.tmp 8)), [], .none⟩, ⟨(.some 2), .none, (.mov (.tmp 12)), [], .none⟩]) .ret))
def fc620 : FC := ⟨1, 13, [(.tmp 2)], fb620⟩
theorem fc620_eq : compF Go.Proofs.Tryd.prog 31 = some fc620 := by kernel_rfl
def fb621 : AC := (.seq (.reg [⟨(.some 3), .none, (.box 32 (.tmp 1)), [], .none⟩]) (.seq (.reg [⟨(.some 5), .none, (.mov (.tmp 0)), [], .none⟩, ⟨(.some 6), .none, (.xc (.dir 31) [(.tmp 5)] [] []), [], .none⟩, ⟨(.some 4), .none, (.mov (.tmp 6)), [], .none⟩]) (.reg [⟨(.some 8), .none, (.mov (.tmp 4)), [], .none⟩, ⟨(.some 9), .none, (.mov (.tmp 4)), [], .none⟩, ⟨(.some 10), .none, (.mov (.tmp 0)), [], .none⟩, ⟨(.some 11), .none, (.rdp (.mkifc 67) [(.tmp 10)]), [], .none⟩, ⟨(.some 12), .none, (.mov (.tmp 4)), [], .none⟩, ⟨(.some 13), .none, (.nilc (.tmp 12)), [], .none⟩, ⟨(.some 14), .none, (.faddr 2 2 (.tmp 13)), [], .none⟩, ⟨(.some 15), .none, (.load .true 32 (.tmp 14)), [], (.some 4)⟩, ⟨(.some 16), .none, (.load .true 32 (.tmp 3)), [], (.some 3)⟩, ⟨(.some 17), .none, (.bslice 32 (.arr 1 (List.replicate 32 (.lit (bn 0)))) 2 [(0, (.tmp 15)), (1, (.tmp 16))]), [], .none⟩, ⟨(.some 18), .none, (.xc (.dir 78) [(.tmp 11), (.const (tx [114, 97, 116, 99, 104, 101, 116])), (.tmp 17)] [] []), [], .none⟩, ⟨(.some 7), .none, (.mov (.tmp 18)), [], .none⟩, ⟨(.some 19), .none, (.ext (.tmp 7) 0), [], .none⟩, ⟨(.some 20), .none, (.ext (.tmp 7) 1), [], .none⟩, ⟨(.some 21), .none, (.nilc (.tmp 8)), [], .none⟩, ⟨(.some 22), .none, (.faddr 34 3 (.tmp 21)), [], .none⟩, ⟨.none, .none, (.store 32 (.tmp 22) (.tmp 19)), [], .none⟩, ⟨(.some 23), .none, (.nilc (.tmp 9)), [], .none⟩, ⟨(.some 24), .none, (.faddr 2 2 (.tmp 23)), [], .none⟩, ⟨.none, .none, (.store 32 (.tmp 24) (.tmp 20)), [], .none⟩])))
def fc621 : FC := ⟨2, 25, [], fb621⟩
theorem fc621_eq : compF Go.Proofs.Tryd.prog 70 = some fc621 := by kernel_rfl
def fb622 : AC := (.seq (.reg [⟨(.some 5), .none, (.box 32 (.tmp 2)), [], .none⟩]) (.reg [⟨(.some 6), .none, (.mov (.tmp 0)), [], .none⟩, ⟨(.some 7), .none, (.mov (.tmp 0)), [], .none⟩, ⟨(.some 8), .none, (.nilc (.tmp 7)), [], .none⟩, ⟨(.some 9), .none, (.faddr 1 1 (.tmp 8)), [], .none⟩, ⟨(.some 10), .none, (.faddr 528 1 (.tmp 9)), [], .none⟩, ⟨(.some 11), .none, (.load .false 1 (.tmp 10)), [], .none⟩, ⟨(.some 12), .none, (.mov (.tmp 0)), [], .none⟩, ⟨(.some 13), .none, (.nilc (.tmp 12)), [], .none⟩, ⟨(.some 14), .none, (.faddr 531 3 (.tmp 13)), [], .none⟩, ⟨(.some 15), .none, (.load .true 32 (.tmp 14)), [], (.some 0)⟩, ⟨(.some 16), .none, (.mov (.tmp 1)), [], .none⟩, ⟨(.some 17), .none, (.load .true 32 (.tmp 5)), [], (.some 5)⟩, ⟨(.some 18), .none, (.build (.st [32, 1, 32] [(.arr 1 (List.replicate 32 (.lit (bn 0)))), (.lit (jn 0)), (.arr 1 (List.replicate 32 (.lit (bn 0))))]) [(0, (.tmp 15)), (1, (.tmp 16)), (2, (.tmp 17))]), [], .none⟩, ⟨(.some 19), .none, (.bslice 65 (.st [32, 1, 32] [(.arr 1 (List.replicate 32 (.lit (bn 0)))), (.lit (jn 0)), (.arr 1 (List.replicate 32 (.lit (bn 0))))]) 1 [(0, (.tmp 18))]), [], .none⟩, ⟨(.some 20), .none, (.append 83 65 72 (.tmp 11) (.tmp 19)), [], .none⟩, ⟨(.some 21), .none, (.nilc (.tmp 6)), [], .none⟩, ⟨(.some 22), .none, (.faddr 1 1 (.tmp 21)), [], .none⟩, ⟨(.some 23), .none, (.faddr 528 1 (.tmp 22)), [], .none⟩, ⟨.none, .none, (.store 1 (.tmp 23) (.tmp 20)), [], .none⟩]))
def fc622 : FC := ⟨3, 24, [], fb622⟩
theorem fc622_eq : compF Go.Proofs.Tryd.prog 71 = some fc622 := by kernel_rfl
def fb623 : AC := (.seq (.reg [⟨(.some 2), .none, (.mov (.const (.bool .false))), [], .none⟩]) (.seq (.reg [⟨(.some 3), .none, (.mov (.tmp 0)), [], .none⟩, ⟨(.some 4), .none, (.xc (.dir 31) [(.tmp 3)] [] []), [], .none⟩, ⟨(.some 5), .none, (.nilc (.tmp 4)), [], .none⟩, ⟨(.some 6), .none, (.faddr 0 0 (.tmp 5)), [], .none⟩, ⟨(.some 7), .none, (.load .false 1 (.tmp 6)), [], .none⟩, ⟨(.some 2), .none, (.mov (.tmp 7)), [], .none⟩]) .ret))
def fc623 : FC := ⟨1, 8, [(.tmp 2)], fb623⟩
theorem fc623_eq : compF Go.Proofs.Tryd.prog 69 = some fc623 := by kernel_rfl

def stI (S : Sb) : AV := .ifc 67 (.ptr S.b S.l 0 [])
theorem mkifc_st (b : Nat) (l : Nat × Nat) : rdA Go.Proofs.Tryd.prog (fun _ => none) (.mkifc 67) [.ptr b l 0 []] = some (.ifc 67 (.ptr b l 0 [])) := by kernel_rfl
theorem via_hash : viaB Go.Proofs.Tryd.prog 67 "Hash" = true := by kernel_rfl
theorem meth_hash (b : Nat) (l : Nat × Nat) : methA Go.Proofs.Tryd.prog (Go.Proofs.Tryd.prog.types.size + Made.depth - 1) 40 (freeS b l) "Hash" = some (108, .ptr b l 0 []) := by kernel_rfl
theorem call_hash : callable Go.Proofs.Tryd.prog 108 = true := by kernel_rfl
theorem tgtA_st (b : Nat) (l : Nat × Nat) (x y : AV) : tgtA Go.Proofs.Tryd.prog (.inv "Hash") [.ifc 67 (.ptr b l 0 []), x, y] = none := by kernel_rfl
theorem tgt_stHash {hp : List (Option Blk)} {t : Tb} {S : Sb} {x : StV} {Vc : Value} (hb : hp[S.b]? = some (some (sbk t S x Vc))) (a b : AV) : tgtH Go.Proofs.Tryd.prog hp (.inv "Hash") [stI S, a, b] = some (108, [.ptr t.b t.l 0 [], a, b]) := by
  unfold tgtH stI
  rw [tgtA_st]
  simp only
  have hpk : AS.peek ⟨0, [], hp⟩ (fun _ => true) (.ptr S.b S.l 0 ([] ++ [0])) = some (1, .ifc 40 (freeS t.b t.l)) := by
    simp [AS.peek, AS.blk, hb, sbk, Blk.loc, Blk.cont, Blk.n, stA, AV.nav, freeI]
  unfold tgtP
  simp only [via_hash, if_true, hpk, meth_hash, Option.bind_some, call_hash]

set_option maxHeartbeats 8000000 in
theorem two_gen {H : List (Option Blk)} {t : Tb} {V : Value} {ts : List Term} (hh : TbOk H t V ts) (hn : ts.length + 1 < 100000) {s : List UInt8} (hs : s.length < 90000) {ks : List (List UInt8)} (hk : ks.length < 100000) (h32 : ∀ k ∈ ks, k.length = 32) {I : AV} (hI : ∀ V ts L x y, tgtH Go.Proofs.Tryd.prog (tbOf H t V ts ++ L) (.inv "Hash") [I, x, y] = some (108, [.ptr t.b t.l 0 [], x, y])) :
    XCall Go.Proofs.Tryd.prog 78 [I, .lit (tx s), .sl 32 (klA ks)] H fun r H' => r = .tup [keyA (twoV ts s ks).1.1, keyA (twoV ts s ks).1.2] ∧ ∃ V', H' = tbOf H t V' (twoV ts s ks).2 := by
  have h515 := fc515_eq
  refine XCall.le ?_
  have hself := hh.self
  have G1 : ∀ V' ts', (tbOf H t V' ts').length = H.length := fun V' ts' => tbOf_len _ _ _ _
  have g1 : ∀ V' ts' L k, (tbOf H t V' ts' ++ L)[H.length + k]? = L[k]? := fun V' ts' L k => cat1 _ _ _ _ (G1 _ _)
  have g2 : ∀ V' ts' L k x, (tbOf H t V' ts' ++ L).set (H.length + k) x = tbOf H t V' ts' ++ L.set k x := fun V' ts' L k x => cat2 _ _ _ _ _ (G1 _ _)
  have hb1 : binVal .add (tx s) (tx [47, 49]) = some (tx (s ++ [47, 49])) := bin_adds _ _ (by simp only [List.length_cons, List.length_nil]; omega)
  have hb2 : binVal .add (tx s) (tx [47, 50]) = some (tx (s ++ [47, 50])) := bin_adds _ _ (by simp only [List.length_cons, List.length_nil]; omega)
  have l1 : (s ++ [47, 49]).length < 100000 := by simp; omega
  have l2 : (s ++ [47, 50]).length < 100000 := by simp; omega
  have hln := putT_len ts ⟨2, s ++ [47, 49], ks⟩
  have hk1 := hash_k hh (ts := ts) (by omega) l1 hk h32
  have hk2 := hash_k hh (ts := putT ts ⟨2, s ++ [47, 49], ks⟩) (by omega) l2 hk h32
  have n1 := nameK_len (putN ts ⟨2, s ++ [47, 49], ks⟩)
  have n2 := nameK_len (putN (putT ts ⟨2, s ++ [47, 49], ks⟩) ⟨2, s ++ [47, 50], ks⟩)
  unfold twoV
  simp only
  generalize nameK (putN ts ⟨2, s ++ [47, 49], ks⟩) = k1 at *
  generalize nameK (putN (putT ts ⟨2, s ++ [47, 49], ks⟩) ⟨2, s ++ [47, 50], ks⟩) = k2 at *
  generalize putT (putT ts ⟨2, s ++ [47, 49], ks⟩) ⟨2, s ++ [47, 50], ks⟩ = ts3 at *
  generalize putT ts ⟨2, s ++ [47, 49], ks⟩ = ts2 at *
  generalize s ++ [47, 49] = sa at *
  generalize s ++ [47, 50] = sb at *
  refine XCall.of h515 rfl ?_; show AC.wp _ fb515 ⟨H.length, [I, .lit (tx s), .sl 32 (klA ks)] ++ List.replicate (18 - 3) .any, H ++ List.replicate 18 none⟩ (fun x s => match x with | .exit _ => False | _ => ∃ s1, Le s s1 ∧ FinX [(.cell 6 .true 32), (.cell 7 .true 32)] s1 _); unfold fb515
  rw [← hself]
  rw [tbOf_len]
  generalize hN : H.length = N at *
  refine wp_sg (areg_al' zk_eq.symm fun l6 => areg_al' zk_eq.symm fun l7 => areg_end (by simp [push_cast, g2]; exact rfl) ?_)
  refine wp_sg ?_
  refine areg_run 4 (by simp [push_cast, hb1]; exact rfl) ?_
  refine areg_kH [I, .lit (tx sa), .sl 32 (klA ks)] hN rfl (fun L => hI _ _ L _ _) hk1 (by simp) (by simp) fun V2 => ?_
  refine areg_run 4 (by simp [push_cast, hb2]; exact rfl) ?_
  refine areg_kH [I, .lit (tx sb), .sl 32 (klA ks)] hN rfl (fun L => hI _ _ L _ _) hk2 (by simp) (by simp) fun V3 => ?_
  refine areg_end (by simp [push_cast, g1, g2, n1, n2]; exact rfl) (wp_ret' ?_)
  exact ⟨_, Le.refl _, [], _, ⟨_, rfl, by simp [AS.seals, RVals, RVal, AS.ev, AS.peek, AS.blk, g1, Blk.loc, Blk.cont, Blk.n, AV.nav, AV.isAgg, AV.isTup, AS.coe]; rfl, by simp [keyA]⟩, .tup [keyA k1, keyA k2], _, RelLe.refl _, by simp, HpLe.trim _ _, rfl, V3, (hh.of_of _ _ _ _).symm⟩
theorem twoS_sc {H : List (Option Blk)} {t : Tb} {S : Sb} {x0 x : StV} {Vc0 V0 : Value} {ts0 ts : List Term} (hh : StT H t S x0 Vc0 V0 ts0) (hn : ts.length + 1 < 100000) {s : List UInt8} (hs : s.length < 90000) {ks : List (List UInt8)} (hk : ks.length < 100000) (h32 : ∀ k ∈ ks, k.length = 32) :
    SC Go.Proofs.Tryd.prog 78 [stI S, .lit (tx s), .sl 32 (klA ks)] H t S x ts (.tup [keyA (twoV ts s ks).1.1, keyA (twoV ts s ks).1.2]) x (twoV ts s ks).2 :=
  SC.of hh fun H V Vc h => XCall.mono (two_gen h.tb hn hs hk h32 (I := stI S) fun V' ts' L a b => tgt_stHash (((h.st.tbOf V' ts').app L).hb) a b) fun r H' ⟨h1, V', h2⟩ => ⟨h1, V', Vc, by rw [h2, h.st.self]⟩

/-! ### The author's ratchet -/
def autV (x : StV) : Nat := x.o.author.toNat
/-- The author is a member; there are eight ratchets. -/
structure AuOk (x : StV) (a : Nat) : Prop where
  au : x.o.author = (a : Int)
  lt : a < 8
  len : x.rats.length = 8
def autP (S : Sb) (a : Nat) : AV := .ptr S.b S.l (1 + a * 66) [1, 0, a]
set_option maxHeartbeats 8000000 in
theorem author_call {G : List (Option Blk)} {t : Tb} {S : Sb} {x : StV} {Vc : Value} (hb : G[S.b]? = some (some (sbk t S x Vc))) {a : Nat} (ha : AuOk x a) : XCall Go.Proofs.Tryd.prog 31 [.ptr S.b S.l 0 []] G fun r H' => r = autP S a ∧ H' = G := by
  have h620 := fc620_eq
  refine XCall.le ?_
  obtain ⟨h1, h2, h3⟩ := ha
  have lb := (List.getElem?_eq_some_iff.1 hb).1
  unfold sbk stA opA at hb
  obtain ⟨rats, waits, me, id, o, of_, got⟩ := x
  simp only at h1 h3 hb
  rw [h1, show ji (a : Int) = jn a from rfl] at hb
  have hA : (rats.map ratA).length = 8 := by rw [List.length_map]; exact h3
  generalize rats.map ratA = A at *
  refine XCall.of h620 rfl ?_; show AC.wp _ fb620 ⟨G.length, [.ptr S.b S.l 0 []] ++ List.replicate (13 - 1) .any, G ++ List.replicate 13 none⟩ (fun x s => match x with | .exit _ => False | _ => ∃ s1, Le s s1 ∧ FinX [(.tmp 2)] s1 _); unfold fb620
  generalize hN : G.length = N at *
  have p1 : ∀ L k, (G ++ L)[N + k]? = L[k]? := fun L k => cat1 N G L k hN
  have pb : ∀ L, (G ++ L)[S.b]? = G[S.b]? := fun L => cat4 N G L _ hN lb
  rw [hb] at pb
  refine wp_sr (by simp [push_cast]; exact rfl) ?_
  refine wp_sr (by simp [push_cast, pb, h2, hA]; exact rfl) (wp_ret' ?_)
  exact ⟨_, Le.refl _, [], _, ⟨by simp [AS.seals, RVals, RVal, AS.ev, AS.coe]; rfl, by simp [autP]⟩, autP S a, G, RelLe.refl _, by simp [autP], HpLe.trim _ _, rfl, rfl⟩

theorem tgt_author (x : AV) : tgtA Go.Proofs.Tryd.prog (.dir 31) [x] = some (31, [x]) := by kernel_rfl
/-- Behind a step. -/
def stepX (x : StV) (a : Nat) (r : Rat) (n : List UInt8 × List UInt8) : StV := { x with rats := x.rats.set a ⟨r.known, r.open_, n.2, n.1⟩ }
set_option maxHeartbeats 16000000 in
theorem step_call {G : List (Option Blk)} {t : Tb} {S : Sb} {x : StV} {Vc V : Value} {ts : List Term} (hh : StT G t S x Vc V ts) (hn : ts.length + 1 < 100000) {a : Nat} (ha : AuOk x a) {r : Rat} (hr : x.rats[a]? = some r) (hk : r.key.length = 32) (hc : r.chain.length = 32) {s : List UInt8} (hs : s.length = 32) :
    XCall Go.Proofs.Tryd.prog 70 [.ptr S.b S.l 0 [], keyA s] G fun r' H' => r' = .tup [] ∧ ∃ V' Vc', H' = tbOf (stOf G t S (stepX x a r (twoV ts txRatchet [r.key, s]).1) Vc') t V' (twoV ts txRatchet [r.key, s]).2 := by
  have h621 := fc621_eq
  refine XCall.le ?_
  have c2 := twoS_sc hh (x := x) hn (s := txRatchet) (by simp [txRatchet]) (ks := [r.key, s]) (by simp) (by simp [hk, hs])
  have n1 : (twoV ts txRatchet [r.key, s]).1.1.length = 32 := nameK_len _
  have n2 : (twoV ts txRatchet [r.key, s]).1.2.length = 32 := nameK_len _
  generalize twoV ts txRatchet [r.key, s] = tv at *
  obtain ⟨⟨k1, k2⟩, ts2⟩ := tv
  simp only at c2 n1 n2 ⊢
  have hself := hh.self
  have G1 : ∀ Y Z V' ts', (tbOf (stB G S Y Z) t V' ts').length = G.length := fun Y Z V' ts' => stB_len _ _ _ _ _ _ _
  have g1 : ∀ Y Z V' ts' L k, (tbOf (stB G S Y Z) t V' ts' ++ L)[G.length + k]? = L[k]? := fun Y Z V' ts' L k => cat1 _ _ _ _ (G1 _ _ _ _)
  have g2 : ∀ Y Z V' ts' L k x, (tbOf (stB G S Y Z) t V' ts' ++ L).set (G.length + k) x = tbOf (stB G S Y Z) t V' ts' ++ L.set k x := fun Y Z V' ts' L k x => cat2 _ _ _ _ _ (G1 _ _ _ _)
  have gb := hh.gb
  have gbs := hh.gbs
  have ac := fun Vc V ts L => author_call (G := tbOf (stB G S (sbk t S x Vc) (swk x Vc)) t V ts ++ L) (gb _ _ _ _ _) ha
  obtain ⟨h1, h2, h3⟩ := ha
  have e1 : ∀ n, 1 + (a * 66 + n) = 1 + a * 66 + n := fun n => by omega
  refine XCall.of h621 rfl ?_; show AC.wp _ fb621 ⟨G.length, [.ptr S.b S.l 0 [], keyA s] ++ List.replicate (25 - 2) .any, G ++ List.replicate 25 none⟩ (fun x s => match x with | .exit _ => False | _ => ∃ s1, Le s s1 ∧ FinX [] s1 _); unfold fb621
  rw [← hself]
  unfold stOf
  rw [stB_len]
  generalize hN : G.length = N at *
  refine wp_sg (areg_bx rfl (by simp [AS.ev, AS.put, keyA, AV.sz, bl, hs]) fun l3 => areg_end (by simp [push_cast, g1, g2]; exact rfl) ?_)
  refine wp_sg ?_
  refine areg_run 1 (by simp [push_cast]; exact rfl) ?_
  refine areg_xq (us := [.ptr S.b S.l 0 []]) rfl (tgt_author _) (ac _ _ _ _) ⟨_, _, rfl, rfl⟩ (fun r hp' hK t' ht' => by cases ht') ?_
  rintro r' H' ⟨rfl, rfl⟩
  refine areg_end (by simp [push_cast]; exact rfl) ?_
  refine wp_rg ?_
  refine areg_run 3 (by simp [push_cast]; exact rfl) ?_
  refine areg_rdp (us := [.ptr S.b S.l 0 []]) rfl (mkifc_st _ _) ?_
  have hA : (x.rats.map ratA).length = 8 := by rw [List.length_map]; exact h3
  have hwA : a < (x.rats.map ratA).length := by omega
  have hg : (x.rats.map ratA)[a]? = some (.st [1, 1, 32, 32] [.lit (.bool r.known), .lit (.bool r.open_), keyA r.key, keyA r.chain]) := by rw [List.getElem?_map, hr]; rfl
  have hg4 : ∀ h, (x.rats.map ratA)[a]'h = .st [1, 1, 32, 32] [.lit (.bool r.known), .lit (.bool r.open_), keyA r.key, keyA r.chain] := fun h => by rw [List.getElem?_eq_getElem h] at hg; exact Option.some.inj hg
  refine areg_run 5 (by simp [push_cast, autP, gb, g1, hs, sbk, stA, hA, hwA, hg, hg4, h2, e1, hk]; exact rfl) ?_
  refine areg_bsl (k := 32) (els := klA [r.key, s]) (fill_ar rfl rfl rfl (by simp [AV.sz, AS.ev, AS.put, hk, bl_len]) (fill_ar rfl rfl rfl (by simp [AV.sz, AS.ev, AS.put, hs, bl_len]) rfl)) ?_
  refine areg_sc (x := x) (Vc := Vc) (x' := x) [stI S, .lit (tx txRatchet), .sl 32 (klA [r.key, s])] hN rfl (tgt_two _ _ _) c2 (by simp) (by simp) fun V2 Vc2 => ?_
  unfold stOf
  have hset : ∀ v : AV, ((x.rats.map ratA).set a v).length = 8 := fun v => by rw [List.length_set]; exact hA
  have hsg : ∀ v : AV, ((x.rats.map ratA).set a v)[a]? = some v := fun v => List.getElem?_set_self hwA
  have hsg4 : ∀ v h, ((x.rats.map ratA).set a v)[a]'h = v := fun v h => List.getElem_set_self h
  have hfin : (x.rats.map ratA).set a (.st [1, 1, 32, 32] [.lit (.bool r.known), .lit (.bool r.open_), keyA k2, keyA k1]) = (stepX x a r (k1, k2)).rats.map ratA := by simp [stepX, List.map_set, ratA]
  refine areg_end (by simp [push_cast, autP, gb, gbs, g1, sbk, stA, hA, hwA, hg, hg4, h2, e1, n1, n2, hk, hc, hset, hsg, hsg4, List.set_set]; exact rfl) ?_
  refine ⟨_, Le.refl _, [], .tup [], ⟨[], rfl, rfl, by simp⟩, .tup [], _, RelLe.refl _, by simp, HpLe.trim _ _, rfl, V2, Vc2, ?_⟩
  refine Eq.trans ?_ (hh.of_of x (stepX x a r (k1, k2)) Vc Vc2 V V2 ts ts2).symm
  unfold stOf sbk stA
  rw [← hfin]
  rfl

set_option maxHeartbeats 16000000 in
theorem knownS_call {G : List (Option Blk)} {t : Tb} {S : Sb} {x : StV} {Vc : Value} (hb : G[S.b]? = some (some (sbk t S x Vc))) {a : Nat} (ha : AuOk x a) {r : Rat} (hr : x.rats[a]? = some r) : XCall Go.Proofs.Tryd.prog 69 [.ptr S.b S.l 0 []] G fun r' H' => r' = .lit (.bool r.known) ∧ H' = G := by
  have h623 := fc623_eq
  refine XCall.le ?_
  have ac := fun L => author_call (G := G ++ L) (t := t) (S := S) (x := x) (Vc := Vc) (by rw [List.getElem?_append_left (List.getElem?_eq_some_iff.1 hb).1]; exact hb) ha
  obtain ⟨h1, h2, h3⟩ := ha
  have lb := (List.getElem?_eq_some_iff.1 hb).1
  have hA : (x.rats.map ratA).length = 8 := by rw [List.length_map]; exact h3
  have hwA : a < (x.rats.map ratA).length := by omega
  have hg : (x.rats.map ratA)[a]? = some (.st [1, 1, 32, 32] [.lit (.bool r.known), .lit (.bool r.open_), keyA r.key, keyA r.chain]) := by rw [List.getElem?_map, hr]; rfl
  have hg4 : ∀ h, (x.rats.map ratA)[a]'h = .st [1, 1, 32, 32] [.lit (.bool r.known), .lit (.bool r.open_), keyA r.key, keyA r.chain] := fun h => by rw [List.getElem?_eq_getElem h] at hg; exact Option.some.inj hg
  have e1 : ∀ n, 1 + (a * 66 + n) = 1 + a * 66 + n := fun n => by omega
  refine XCall.of h623 rfl ?_; show AC.wp _ fb623 ⟨G.length, [.ptr S.b S.l 0 []] ++ List.replicate (8 - 1) .any, G ++ List.replicate 8 none⟩ (fun x s => match x with | .exit _ => False | _ => ∃ s1, Le s s1 ∧ FinX [(.tmp 2)] s1 _); unfold fb623
  generalize hN : G.length = N at *
  have pb : ∀ L, (G ++ L)[S.b]? = G[S.b]? := fun L => cat4 N G L _ hN lb
  rw [hb] at pb
  refine wp_sr (by simp [push_cast]; exact rfl) (wp_sg ?_)
  refine areg_run 1 (by simp [push_cast]; exact rfl) ?_
  refine areg_xq (us := [.ptr S.b S.l 0 []]) rfl (tgt_author _) (ac _) ⟨_, _, rfl, rfl⟩ (fun r hp' hK t' ht' => by cases ht') ?_
  rintro r' H' ⟨rfl, rfl⟩
  refine areg_end (by simp [push_cast, autP, pb, sbk, stA, hA, hwA, hg, hg4, h2, e1]; exact rfl) (wp_ret' ?_)
  exact ⟨_, Le.refl _, finX1 (v := .lit (.bool r.known)) (by simp [AS.seals, RVals, RVal, AS.ev, AS.coe]) (by simp) ⟨.lit (.bool r.known), G, RelLe.refl _, by simp, HpLe.trim _ _, rfl, rfl⟩⟩
end Go.Cab

/- Secrets: a member's secret noted. -/
-- TEXTS
-- KIT
namespace Go.Cab
open Go.RowKit
open Classical

def awaitX (x : StV) (who : Int) (k : List UInt8) : StV := { x with waits := x.waits ++ [⟨x.id, who, k⟩] }
set_option maxHeartbeats 16000000 in
theorem await_call {G : List (Option Blk)} {t : Tb} {S : Sb} {x : StV} {Vc V : Value} {ts : List Term} (hh : StT G t S x Vc V ts) (who : Int) {k : List UInt8} (hk : k.length = 32) (hid : x.id.length = 32) (hwl : x.waits.length < 10000) :
    XCall Go.Proofs.Tryd.prog 71 [.ptr S.b S.l 0 [], .lit (ji who), keyA k] G fun r' H' => r' = .tup [] ∧ ∃ V' Vc', H' = tbOf (stOf G t S (awaitX x who k) Vc') t V' ts := by
  have h622 := fc622_eq
  refine XCall.le ?_
  have lb := hh.st.lb; have lc := hh.st.lc
  have gb := hh.st.hb; have gc := hh.st.hc
  have hbc := hh.st.bc
  unfold sbk stA at gb
  unfold swk at gc
  have bd1 : (x.waits.map waitA).length + 1 ≤ maxLen := by rw [List.length_map]; simp [maxLen]; omega
  have bd2 : ((x.waits.map waitA).length + 1) * 72 ≤ 140737488355328 := by rw [List.length_map]; omega
  refine XCall.of h622 rfl ?_; show AC.wp _ fb622 ⟨G.length, [.ptr S.b S.l 0 [], .lit (ji who), keyA k] ++ List.replicate (24 - 3) .any, G ++ List.replicate 24 none⟩ (fun x s => match x with | .exit _ => False | _ => ∃ s1, Le s s1 ∧ FinX [] s1 _); unfold fb622
  generalize hN : G.length = N at *
  have p1 : ∀ L k, (G ++ L)[N + k]? = L[k]? := fun L k => cat1 N G L k hN
  have p2 : ∀ L k x, (G ++ L).set (N + k) x = G ++ L.set k x := fun L k x => cat2 N G L k x hN
  have pb : ∀ L, (G ++ L)[S.b]? = G[S.b]? := fun L => cat4 N G L _ hN lb
  have pc : ∀ L, (G ++ L)[S.c]? = G[S.c]? := fun L => cat4 N G L _ hN lc
  rw [gb] at pb
  rw [gc] at pc
  have psc : ∀ L x, (G ++ L).set S.c x = G.set S.c x ++ L := fun L x => cat3 N G L _ x hN lc
  have hG1 : (G.set S.c none).length = N := by rw [List.length_set]; exact hN
  have q2 : ∀ L k x, (G.set S.c none ++ L).set (N + k) x = G.set S.c none ++ L.set k x := fun L k x => cat2 N _ L k x hG1
  have qb : ∀ L, (G.set S.c none ++ L)[S.b]? = G[S.b]? := fun L => by rw [cat4 N _ L _ hG1 lb, List.getElem?_set_ne hbc.symm]
  rw [gb] at qb
  have qsb : ∀ L B, (G.set S.c none ++ L).set S.b B = (G.set S.c none).set S.b B ++ L := fun L B => cat3 N _ L _ _ hG1 lb
  refine wp_sg (areg_bx rfl (by simp [AS.ev, AS.put, keyA, AV.sz, bl, hk]) fun l5 => areg_end (by simp [push_cast, p1, p2]; exact rfl) ?_)
  refine wp_rg ?_
  refine areg_run 12 (by simp [push_cast, p1, pb, hk, hid]; exact rfl) ?_
  refine areg_bd (z' := waitA ⟨x.id, who, k⟩) (fill_st rfl rfl rfl rfl (by simp [AV.sz, AS.ev, AS.put, keyA, hid, bl_len]) (fill_st rfl rfl rfl rfl rfl (fill_st rfl rfl rfl rfl (by simp [AV.sz, AS.ev, AS.put, keyA, hk, bl_len]) rfl))) ?_
  refine areg_bsl (k := 65) (els := [waitA ⟨x.id, who, k⟩]) (fill_ar rfl rfl rfl (by simp [AV.sz, AS.ev, AS.put, waitA, keyA]) rfl) ?_
  refine areg_ap (b := S.c) (V := Vc) (ys := [waitA ⟨x.id, who, k⟩]) rfl (by simp only [AS.blk, AS.put, pc]; rfl) (by simp [AS.ev, AS.put, AS.coe]) bd1 bd2 (fun V' => ?_)
  refine areg_end (by simp [push_cast, psc, q2, qb, qsb]; exact rfl) ?_
  refine ⟨_, Le.refl _, [], .tup [], ⟨[], rfl, rfl, by simp⟩, .tup [], _, RelLe.refl _, by simp, ?_, rfl, V, V', (hh.st.tb hh.tb (awaitX x who k) V').self.symm⟩
  unfold stOf stB
  rw [show ∀ s : AS, (s.seals []).hp = s.hp from fun _ => rfl]
  dsimp only
  refine HpLe.swap (H := G) (b := S.b) (j := S.c) (d := N + 20) (X := .box S.l 706 (.st [1, 529, 1, 32, 71, 71, 1] [freeI t.b t.l, .st [528, 1] [.arr 66 (x.rats.map ratA), .own (N + 20) V'], .lit (ji x.me), keyA x.id, opA x.o, opA x.of_, .sl 32 (klA x.got)])) (by omega) hbc (by omega) ?_ ?_ ?_ ?_
  · rw [cat4 N _ _ _ (by rw [List.length_set]; exact hG1) lb, List.getElem?_set_self (by omega)]
    rfl
  · rw [cat1 N _ _ _ (by rw [List.length_set]; exact hG1)]
    simp [swk, awaitX]
  · intro k k1 k2 k3
    rw [cat4 N _ _ _ (by rw [List.length_set]; exact hG1) (by omega), List.getElem?_set_ne (Ne.symm k1), List.getElem?_set_ne (Ne.symm k2)]
  · exact BlkLe.box (AVle.st1 (AVle.refl _) (AVle.st1 (AVle.st1 (AVle.refl _) (AVle.st1 (AVle.own _ _ _) AVle.st0)) (AVle.refl _)))
end Go.Cab

/- Secrets: what a seed does. -/
-- TEXTS
-- KIT
namespace Go.Cab
open Go.RowKit
open Classical
def fb625 : AC := (.seq (.reg [⟨(.some 2), .none, (.mov (.const (.bool .false))), [], .none⟩]) (.seq (.seq (.reg [⟨(.some 6), .none, (.mov (.tmp 0)), [], .none⟩, ⟨(.some 7), .none, (.nilc (.tmp 6)), [], .none⟩, ⟨(.some 8), .none, (.faddr 705 6 (.tmp 7)), [], .none⟩, ⟨(.some 9), .none, (.load .false 1 (.tmp 8)), [], .none⟩, ⟨(.some 10), .none, (.len .false (.tmp 9)), [], .none⟩, ⟨(.some 11), .none, (.bin .neq (.tmp 10) (.const (jn 1))), [], .none⟩]) (.cond (.tmp 11) (.seq (.reg [⟨(.some 2), .none, (.mov (.const (.bool .false))), [], .none⟩]) .ret) .skip)) (.seq (.reg [⟨(.some 12), .none, (.mov (.tmp 0)), [], .none⟩, ⟨(.some 13), .none, (.nilc (.tmp 12)), [], .none⟩, ⟨(.some 14), .none, (.faddr 705 6 (.tmp 13)), [], .none⟩, ⟨(.some 15), .none, (.load .false 1 (.tmp 14)), [], .none⟩, ⟨(.some 16), .none, (.iaddrS 32 (.tmp 15) (.const (jn 0))), [], .none⟩, ⟨(.some 17), .none, (.load .true 32 (.tmp 16)), [], .none⟩, ⟨(.some 3), .none, (.alloc 32 (.arr 1 (List.replicate 32 (.lit (bn 0))))), [], .none⟩, ⟨.none, .none, (.store 32 (.tmp 3) (.tmp 17)), [], .none⟩]) (.seq (.seq (.reg [⟨(.some 18), .none, (.mov (.tmp 0)), [], .none⟩, ⟨(.some 19), .none, (.nilc (.tmp 18)), [], .none⟩, ⟨(.some 20), .none, (.faddr 563 4 (.tmp 19)), [], .none⟩, ⟨(.some 21), .none, (.faddr 70 8 (.tmp 20)), [], .none⟩, ⟨(.some 22), .none, (.load .false 1 (.tmp 21)), [], .none⟩, ⟨(.some 23), .none, (.len .false (.tmp 22)), [], .none⟩, ⟨(.some 24), .none, (.mov (.const (jn 0))), [], .none⟩]) (.block 0 (.loop (.seq (.reg [⟨(.some 25), .none, (.bin .lss (.tmp 24) (.tmp 23)), [], .none⟩]) (.seq (.cond (.tmp 25) .skip (.exit 0)) (.seq (.block 1 (.seq (.reg [⟨(.some 26), .none, (.iaddrS 36 (.tmp 22) (.tmp 24)), [], .none⟩, ⟨(.some 27), .none, (.load .true 36 (.tmp 26)), [], .none⟩, ⟨(.some 5), .none, (.alloc 36 (.st [1, 34, 1] [(.lit (jn 0)), (.st [32, 1, 1] [(.arr 1 (List.replicate 32 (.lit (bn 0)))), (.lit (wn 0)), (.lit (wn 0))]), (.lit (tx []))])), [], .none⟩, ⟨.none, .none, (.store 36 (.tmp 5) (.tmp 27)), [], .none⟩]) (.reg [⟨(.some 28), .none, (.mov (.tmp 0)), [], .none⟩, ⟨(.some 29), .none, (.faddr 0 0 (.tmp 5)), [], .none⟩, ⟨(.some 30), .none, (.load .false 1 (.tmp 29)), [], (.some 5)⟩, ⟨(.some 31), .none, (.mov (.tmp 0)), [], .none⟩, ⟨(.some 32), .none, (.nilc (.tmp 31)), [], .none⟩, ⟨(.some 33), .none, (.faddr 0 0 (.tmp 32)), [], .none⟩, ⟨(.some 34), .none, (.load .false 1 (.tmp 33)), [], (.some 0)⟩, ⟨(.some 35), .none, (.faddr 0 0 (.tmp 5)), [], .none⟩, ⟨(.some 36), .none, (.load .false 1 (.tmp 35)), [], (.some 5)⟩, ⟨(.some 37), .none, (.callv 77 [(.tmp 36)]), [], (.some 1000000)⟩, ⟨(.some 38), .none, (.bin .add (.const (tx [109, 101, 109, 98, 101, 114, 32])) (.tmp 37)), [], .none⟩, ⟨(.some 39), .none, (.load .true 32 (.tmp 3)), [], (.some 3)⟩, ⟨(.some 40), .none, (.bslice 32 (.arr 1 (List.replicate 32 (.lit (bn 0)))) 1 [(0, (.tmp 39))]), [], .none⟩, ⟨(.some 41), .none, (.rdp .nilv [(.tmp 34)]), [], .none⟩, ⟨(.some 42), .none, (.mov (.tmp 34)), [], .none⟩, ⟨(.some 43), .none, (.xc (.inv "Hash") [(.tmp 42), (.tmp 38), (.tmp 40)] [5] []), [], .none⟩, ⟨(.some 44), .none, (.xc (.dir 71) [(.tmp 28), (.tmp 30), (.tmp 43)] [] []), [], .none⟩]))) (.reg [⟨(.some 45), .none, (.bin .add (.tmp 24) (.const (jn 1))), [], .none⟩, ⟨(.some 24), .none, (.mov (.tmp 45)), [], .none⟩]))))))) (.seq (.reg [⟨(.some 46), .none, (.mov (.tmp 0)), [], .none⟩, ⟨(.some 47), .none, (.mov (.tmp 0)), [], .none⟩, ⟨(.some 48), .none, (.nilc (.tmp 47)), [], .none⟩, ⟨(.some 49), .none, (.faddr 0 0 (.tmp 48)), [], .none⟩, ⟨(.some 50), .none, (.load .false 1 (.tmp 49)), [], (.some 0)⟩, ⟨(.some 51), .none, (.load .true 32 (.tmp 3)), [], (.some 3)⟩, ⟨(.some 52), .none, (.bslice 32 (.arr 1 (List.replicate 32 (.lit (bn 0)))) 1 [(0, (.tmp 51))]), [], .none⟩, ⟨(.some 53), .none, (.xc (.inv "Hash") [(.tmp 50), (.const (tx [115, 101, 110, 100, 101, 114])), (.tmp 52)] [] []), [], .none⟩, ⟨(.some 54), .none, (.xc (.dir 70) [(.tmp 46), (.tmp 53)] [] []), [], .none⟩]) (.seq (.reg [⟨(.some 2), .none, (.mov (.const (.bool .true))), [], .none⟩]) .ret))))))
def fc625 : FC := ⟨1, 55, [(.tmp 2)], fb625⟩
theorem fc625_eq : compF Go.Proofs.Tryd.prog 67 = some fc625 := by kernel_rfl

/-- The members' secrets of a seed. -/
def seedW (id seed : List UInt8) : List Term → List WaitV → List BoxV → List WaitV × List Term
  | ts, ws, [] => (ws, ts)
  | ts, ws, b :: bs => seedW id seed (putT ts (memT (dec2 b.to.toNat) seed)) (ws ++ [⟨id, b.to, nameK (putN ts (memT (dec2 b.to.toNat) seed))⟩]) bs
def wX (x : StV) (ws : List WaitV) : StV := { x with waits := ws }
/-- Behind a seed. -/
def seededV (ts : List Term) (x : StV) (a : Nat) (r : Rat) (seed : List UInt8) : StV × List Term :=
  let w := seedW x.id seed ts x.waits x.o.boxes
  let n := twoV (putT w.2 (senT seed)) txRatchet [r.key, nameK (putN w.2 (senT seed))]
  (stepX (wX x w.1) a r n.1, n.2)
theorem seedW_len (id seed : List UInt8) : ∀ (bs : List BoxV) (ts : List Term) (ws : List WaitV), (seedW id seed ts ws bs).2.length ≤ ts.length + bs.length ∧ (seedW id seed ts ws bs).1.length = ws.length + bs.length
  | [], ts, ws => by simp [seedW]
  | b :: bs, ts, ws => by
    have h := seedW_len id seed bs (putT ts (memT (dec2 b.to.toNat) seed)) (ws ++ [⟨id, b.to, nameK (putN ts (memT (dec2 b.to.toNat) seed))⟩])
    have h1 := putT_len ts (memT (dec2 b.to.toNat) seed)
    simp only [seedW, List.length_cons, List.length_append, List.length_nil] at *
    omega
theorem tgt_await (x y z : AV) : tgtA Go.Proofs.Tryd.prog (.dir 71) [x, y, z] = some (71, [x, y, z]) := by kernel_rfl
theorem tgt_step (x y : AV) : tgtA Go.Proofs.Tryd.prog (.dir 70) [x, y] = some (70, [x, y]) := by kernel_rfl
theorem await_sc {H : List (Option Blk)} {t : Tb} {S : Sb} {x0 x : StV} {Vc0 V0 : Value} {ts0 ts : List Term} (hh : StT H t S x0 Vc0 V0 ts0) (who : Int) {k : List UInt8} (hk : k.length = 32) (hid : x.id.length = 32) (hwl : x.waits.length < 10000) :
    SC Go.Proofs.Tryd.prog 71 [.ptr S.b S.l 0 [], .lit (ji who), keyA k] H t S x ts (.tup []) (awaitX x who k) ts :=
  SC.of hh fun H V Vc h => XCall.mono (await_call h who hk hid hwl) fun r H' ⟨h1, V', Vc', h2⟩ => ⟨h1, V', Vc', h2⟩
theorem step_sc {H : List (Option Blk)} {t : Tb} {S : Sb} {x0 x : StV} {Vc0 V0 : Value} {ts0 ts : List Term} (hh : StT H t S x0 Vc0 V0 ts0) (hn : ts.length + 1 < 100000) {a : Nat} (ha : AuOk x a) {r : Rat} (hr : x.rats[a]? = some r) (hk : r.key.length = 32) (hc : r.chain.length = 32) {s : List UInt8} (hs : s.length = 32) :
    SC Go.Proofs.Tryd.prog 70 [.ptr S.b S.l 0 [], keyA s] H t S x ts (.tup []) (stepX x a r (twoV ts txRatchet [r.key, s]).1) (twoV ts txRatchet [r.key, s]).2 :=
  SC.of hh fun H V Vc h => step_call h hn ha hr hk hc hs

def sdS (N : Nat) (G : List (Option Blk)) (t : Tb) (S : Sb) (x : StV) (B : List AV) (seed : List UInt8) (l3 : Nat × Nat) (y : Nat × List WaitV × List Term × Value × Value) : AS :=
  ⟨N, [.ptr S.b S.l 0 [], .any, .lit (.bool false), .ptr (N + 3) l3 0 []] ++ List.replicate 18 .any ++ [.sl 36 B, .lit (jn B.length), .lit (jn y.1)] ++ List.replicate 30 .any,
    tbOf (stOf G t S (wX x y.2.1) y.2.2.2.1) t y.2.2.2.2 y.2.2.1 ++ ([none, none, none, some (.box l3 32 (keyA seed))] ++ List.replicate 51 none)⟩
/-- A seed that is not one key. -/
theorem seeded_none {G : List (Option Blk)} {t : Tb} {S : Sb} {x : StV} {Vc V : Value} {ts : List Term} (hh : StT G t S x Vc V ts) (hg : x.got.length ≠ 1) (hg2 : x.got.length < 9223372036854775808) :
    XCall Go.Proofs.Tryd.prog 67 [.ptr S.b S.l 0 []] G fun r' H' => r' = .lit (.bool false) ∧ ∃ V' Vc', H' = tbOf (stOf G t S x Vc') t V' ts := by
  have h625 := fc625_eq
  refine XCall.le ?_
  have hself := hh.self
  have gb := hh.gb
  have hgl := klA_len x.got
  refine XCall.of h625 rfl ?_; show AC.wp _ fb625 ⟨G.length, [.ptr S.b S.l 0 []] ++ List.replicate (55 - 1) .any, G ++ List.replicate 55 none⟩ (fun x s => match x with | .exit _ => False | _ => ∃ s1, Le s s1 ∧ FinX [(.tmp 2)] s1 _); unfold fb625
  rw [← hself]
  unfold stOf
  rw [stB_len]
  generalize hN : G.length = N at *
  refine wp_sr (by simp [push_cast]; exact rfl) ?_
  refine wp_seq' (wp_sr (by simp [push_cast, gb, sbk, stA, hgl, hg]; exact rfl) ?_)
  refine wp_cond_t (by simp [AS.ev]) (wp_sr (by simp [push_cast]; exact rfl) (wp_ret' ?_))
  exact ⟨_, Le.refl _, finX1 (v := .lit (.bool false)) (by simp [AS.seals, RVals, RVal, AS.ev, AS.coe]) (by simp) ⟨_, _, RelLe.refl _, by simp, HpLe.trim _ _, rfl, V, Vc, (hh.of_of x x Vc Vc V V ts ts).symm⟩⟩

set_option maxHeartbeats 32000000 in
theorem seeded_call {G : List (Option Blk)} {t : Tb} {S : Sb} {x : StV} {Vc V : Value} {ts : List Term} (hh : StT G t S x Vc V ts) (hn : ts.length + x.o.boxes.length + 20 < 90000) {a : Nat} (ha : AuOk x a) {r : Rat} (hr : x.rats[a]? = some r) (hk : r.key.length = 32) (hc : r.chain.length = 32) {seed : List UInt8} (hg : x.got = [seed]) (hs : seed.length = 32)
    (hid : x.id.length = 32) (hwl : x.waits.length + x.o.boxes.length < 10000) (hbx : ∀ b ∈ x.o.boxes, memB b.to = true) (hbk : ∀ b ∈ x.o.boxes, b.pub.length = 32) :
    XCall Go.Proofs.Tryd.prog 67 [.ptr S.b S.l 0 []] G fun r' H' => r' = .lit (.bool true) ∧ ∃ V' Vc', H' = tbOf (stOf G t S (seededV ts x a r seed).1 Vc') t V' (seededV ts x a r seed).2 := by
  have h625 := fc625_eq
  refine XCall.le ?_
  have hself := hh.self
  have G1 : ∀ Y Z V' ts', (tbOf (stB G S Y Z) t V' ts').length = G.length := fun Y Z V' ts' => stB_len _ _ _ _ _ _ _
  have g1 : ∀ Y Z V' ts' L k, (tbOf (stB G S Y Z) t V' ts' ++ L)[G.length + k]? = L[k]? := fun Y Z V' ts' L k => cat1 _ _ _ _ (G1 _ _ _ _)
  have g2 : ∀ Y Z V' ts' L k x, (tbOf (stB G S Y Z) t V' ts' ++ L).set (G.length + k) x = tbOf (stB G S Y Z) t V' ts' ++ L.set k x := fun Y Z V' ts' L k x => cat2 _ _ _ _ _ (G1 _ _ _ _)
  have gb := hh.gb
  have hgl1 : (klA x.got).length = 1 := by rw [hg]; rfl
  have hgl2 : (klA x.got)[0]? = some (keyA seed) := by rw [hg]; rfl
  have hgl3 : ∀ h, (klA x.got)[0]'h = keyA seed := fun h => by rw [List.getElem?_eq_getElem h] at hgl2; exact Option.some.inj hgl2
  have hbl : (x.o.boxes.map fun b => boxA b).length = x.o.boxes.length := List.length_map _
  have hlw := seedW_len x.id seed x.o.boxes ts x.waits
  refine XCall.of h625 rfl ?_; show AC.wp _ fb625 ⟨G.length, [.ptr S.b S.l 0 []] ++ List.replicate (55 - 1) .any, G ++ List.replicate 55 none⟩ (fun x s => match x with | .exit _ => False | _ => ∃ s1, Le s s1 ∧ FinX [(.tmp 2)] s1 _); unfold fb625
  rw [← hself]
  unfold stOf
  rw [stB_len]
  generalize hN : G.length = N at *
  refine wp_sr (by simp [push_cast]; exact rfl) ?_
  refine wp_seq' (wp_sr (by simp [push_cast, gb, sbk, stA, hgl1, hgl2, hgl3]; exact rfl) ?_)
  refine wp_cond_f (by simp [AS.ev]) (wp_skip' ?_)
  refine wp_sg ?_
  refine areg_run 6 (by simp [push_cast, gb, sbk, stA, hgl1, hgl2, hgl3]; exact rfl) ?_
  refine areg_al' zk_eq.symm fun l3 => areg_end (by simp [push_cast, g1, g2, hs]; exact rfl) ?_
  refine wp_seq' (wp_seq' (wp_r (by simp [push_cast, gb, sbk, stA, opA, hbl]; exact rfl) ?_))
  obtain ⟨B, hB⟩ : ∃ B, B = x.o.boxes.map fun b => boxA b := ⟨_, rfl⟩
  refine wp_block' (wp_loop_m (sdS N G t S x B seed l3) (fun y => x.o.boxes.length - y.1) (fun y => seedW x.id seed y.2.2.1 y.2.1 (x.o.boxes.drop y.1) = seedW x.id seed ts x.waits x.o.boxes ∧ y.1 ≤ x.o.boxes.length ∧ y.2.2.1.length ≤ ts.length + y.1 ∧ y.2.1.length = x.waits.length + y.1) (0, x.waits, ts, Vc, V) ?_ ⟨rfl, by simp, by simp, by simp⟩ ?_)
  · refine Le.mk rfl (by simp [sdS, leT, hB, hbl]) ?_
    show leH (tbOf (stOf G t S x Vc) t V ts ++ _) (tbOf (stOf G t S x Vc) t V ts ++ _)
    exact leH_app (leH_refl _) (by simp [leH, keyA])
  have hBl : B.length = x.o.boxes.length := by rw [hB]; exact hbl
  rintro ⟨i, ws, ts1, Vc1, V1⟩ ⟨hI, hi, hl1, hl2⟩
  simp only at hI hi hl1 hl2 ⊢
  unfold sdS stOf
  simp only
  rw [hBl]
  by_cases hlt : i < x.o.boxes.length
  · obtain ⟨b, hb⟩ : ∃ b, x.o.boxes[i]? = some b := ⟨_, List.getElem?_eq_getElem hlt⟩
    have hdrop : x.o.boxes.drop i = b :: x.o.boxes.drop (i + 1) := by
      rw [List.drop_eq_getElem_cons hlt]
      rw [List.getElem?_eq_getElem hlt] at hb
      rw [Option.some.inj hb]
    rw [hdrop, seedW] at hI
    have hbm := List.mem_of_getElem? hb
    have hto := hbx b hbm
    have hbp := hbk b hbm
    have j1 : B[i]? = some (boxA b) := by rw [hB, List.getElem?_map, hb]; rfl
    have j2 : ∀ h, B[i]'h = boxA b := fun h => by rw [List.getElem?_eq_getElem h] at j1; exact Option.some.inj j1
    obtain ⟨to, pub, bn', prev, body⟩ := b
    simp only at hI hto hbp
    obtain ⟨n, rfl⟩ : ∃ n : Nat, to = (n : Int) := ⟨to.toNat, by unfold memB at hto; simp at hto; omega⟩
    have hn8 : n < 8 := by unfold memB at hto; simp at hto; omega
    unfold boxA at j1 j2
    simp only [show ji (n : Int) = jn n from rfl, Int.toNat_natCast] at j1 j2 hI
    have ic := itoa_call n (by omega)
    have hdl := dec2_len n
    have hb1 : binVal .add (tx [109, 101, 109, 98, 101, 114, 32]) (tx (dec2 n)) = some (tx (txMember ++ dec2 n)) := bin_adds _ _ (by simp only [List.length_cons, List.length_nil]; omega)
    have hkk := hash_k (hh.st.tb hh.tb (wX x ws) Vc1) (ts := ts1) (by omega) (s := txMember ++ dec2 n) (by simp [txMember]; omega) (ks := [seed]) (by simp) (by simp [hs])
    have hpl := putT_len ts1 (memT (dec2 n) seed)
    have q1 : i + 1 < 9223372036854775808 := by omega
    have hmt : (⟨2, txMember ++ dec2 n, [seed]⟩ : Term) = memT (dec2 n) seed := rfl
    rw [hmt] at hkk
    have kl := nameK_len (putN ts1 (memT (dec2 n) seed))
    generalize hkn : nameK (putN ts1 (memT (dec2 n) seed)) = kk at *
    generalize hts2 : putT ts1 (memT (dec2 n) seed) = ts2 at *
    generalize dec2 n = dn at *
    refine wp_sr (by simp [push_cast, hlt]; exact rfl) (wp_seq' (wp_cond_t (by simp [AS.ev]) (wp_skip' ?_)))
    refine wp_seq' (wp_block' (wp_sg ?_))
    refine areg_run 2 (by simp [push_cast, j1, j2, hBl, hlt]; exact rfl) ?_
    refine areg_al' (z' := .st [1, 34, 1] [.lit (jn 0), .st [32, 1, 1] [keyA zk, .lit (wn 0), .lit (wn 0)], .lit (tx [])]) (by rw [zk_eq]) fun l5 => areg_end (by simp [push_cast, g1, g2, hbp, zk_len]; exact rfl) ?_
    refine wp_rg ?_
    refine areg_run 9 (by simp [push_cast, gb, g1, sbk, stA, hbp, freeI]; exact rfl) ?_
    refine areg_cv (by simp [AS.ev, AS.coe, AS.put] <;> exact rfl) ic ?_ (by intro p hp b V; simp at hp; subst hp; simp [AS.ev, AS.put])
    refine areg_run 2 (by simp [push_cast, hb1, g1, hs]; exact rfl) ?_
    refine areg_bsl (k := 32) (els := klA [seed]) (fill_ar rfl rfl rfl (by simp [AV.sz, AS.ev, AS.put, hs, bl_len]) rfl) ?_
    refine areg_run 2 (by simp [push_cast]; exact rfl) ?_
    refine areg_k (H := stOf G t S (wX x ws) Vc1) [freeI t.b t.l, .lit (tx (txMember ++ dn)), .sl 32 (klA [seed])] (by rw [stOf_len]; exact hN) rfl (tgt_hashI _ _ _ _) hkk (by simp) (by simp [AS.ev, AV.place]) fun V2 => ?_
    have haw := await_sc hh (x := wX x ws) (ts := ts2) (n : Int) (k := kk) kl hid (by show ws.length < 10000; omega)
    refine areg_sc (x := wX x ws) (Vc := Vc1) [.ptr S.b S.l 0 [], .lit (jn n), keyA kk] hN rfl (tgt_await _ _ _) haw (by simp) (by simp) fun V3 Vc3 => ?_
    refine areg_end (by simp [push_cast]; exact rfl) ?_
    refine wp_r (by simp [push_cast, q1]; exact rfl) ?_
    refine Exists.intro (i + 1, ws ++ [⟨x.id, (n : Int), kk⟩], ts2, Vc3, V3) ⟨⟨hI, by omega, by simp only; omega, by simp; omega⟩, by simp only; omega, Le.mk rfl (by simp [sdS, leT, hBl]) ?_⟩
    show leH (tbOf (stOf G t S (wX x (ws ++ [⟨x.id, (n : Int), kk⟩])) Vc3) t V3 ts2 ++ _) (tbOf (stOf G t S (wX x (ws ++ [⟨x.id, (n : Int), kk⟩])) Vc3) t V3 ts2 ++ _)
    exact leH_app (leH_refl _) (by simp [leH, keyA])
  · have hin : i = x.o.boxes.length := by omega
    subst hin
    rw [List.drop_length, seedW] at hI
    refine wp_sr (by simp [push_cast]; exact rfl) (wp_seq' (wp_cond_f (by simp [AS.ev]) (wp_exit' (if_hit rfl ?_))))
    have hv : seededV ts x a r seed = (stepX (wX x ws) a r (twoV (putT ts1 (senT seed)) txRatchet [r.key, nameK (putN ts1 (senT seed))]).1, (twoV (putT ts1 (senT seed)) txRatchet [r.key, nameK (putN ts1 (senT seed))]).2) := by
      unfold seededV
      rw [← hI]
    rw [hv]
    have hkk := hash_k (hh.st.tb hh.tb (wX x ws) Vc1) (ts := ts1) (by omega) (s := txSender) (by simp [txSender]) (ks := [seed]) (by simp) (by simp [hs])
    have hmt : (⟨2, txSender, [seed]⟩ : Term) = senT seed := rfl
    rw [hmt] at hkk
    have hpl := putT_len ts1 (senT seed)
    have kl := nameK_len (putN ts1 (senT seed))
    have hst := step_sc hh (x := wX x ws) (ts := putT ts1 (senT seed)) (by omega) (a := a) ⟨ha.au, ha.lt, ha.len⟩ (r := r) hr hk hc (s := nameK (putN ts1 (senT seed))) kl
    generalize nameK (putN ts1 (senT seed)) = kk at *
    generalize putT ts1 (senT seed) = ts2 at *
    generalize twoV ts2 txRatchet [r.key, kk] = tv at *
    refine wp_sg ?_
    refine areg_run 6 (by simp [push_cast, gb, g1, sbk, stA, hs, freeI]; exact rfl) ?_
    refine areg_bsl (k := 32) (els := klA [seed]) (fill_ar rfl rfl rfl (by simp [AV.sz, AS.ev, AS.put, hs, bl_len]) rfl) ?_
    refine areg_k (H := stOf G t S (wX x ws) Vc1) [freeI t.b t.l, .lit (tx txSender), .sl 32 (klA [seed])] (by rw [stOf_len]; exact hN) rfl (tgt_hashI _ _ _ _) hkk (by simp) (by simp [AS.ev, AV.place]) fun V2 => ?_
    refine areg_sc (x := wX x ws) (Vc := Vc1) [.ptr S.b S.l 0 [], keyA kk] hN rfl (tgt_step _ _) hst (by simp) (by simp) fun V3 Vc3 => ?_
    refine areg_end (by simp [push_cast]; exact rfl) ?_
    refine wp_sr (by simp [push_cast]; exact rfl) (wp_ret' ?_)
    exact ⟨_, Le.refl _, finX1 (v := .lit (.bool true)) (by simp [AS.seals, RVals, RVal, AS.ev, AS.coe]) (by simp) ⟨_, _, RelLe.refl _, by simp, HpLe.trim _ _, rfl, V3, Vc3, (hh.of_of x (stepX (wX x ws) a r tv.1) Vc Vc3 V V3 ts tv.2).symm⟩⟩
end Go.Cab

/- Secrets: for whom an operation is; what its check must be; create, update. -/
-- TEXTS
-- KIT
namespace Go.Cab
open Go.RowKit
open Classical
def fb615 : AC := (.seq (.reg [⟨(.some 2), .none, (.box 71 (.tmp 0)), [], .none⟩, ⟨(.some 3), .none, (.box 1 (.tmp 1)), [], .none⟩, ⟨(.some 4), .none, (.mov (.const (.bool .false))), [], .none⟩]) (.seq (.reg [⟨(.some 5), .none, (.faddr 0 0 (.tmp 2)), [], .none⟩, ⟨(.some 6), .none, (.load .false 1 (.tmp 5)), [], .none⟩, ⟨(.some 7), .none, (.load .false 1 (.tmp 3)), [], .none⟩, ⟨(.some 8), .none, (.bin .eql (.tmp 6) (.tmp 7)), [], .none⟩, ⟨(.some 9), .none, (.mov (.tmp 8)), [], .none⟩, ⟨(.some 10), (.some (9, .false)), (.faddr 70 8 (.tmp 2)), [], .none⟩, ⟨(.some 11), (.some (9, .false)), (.load .false 1 (.tmp 10)), [], .none⟩, ⟨(.some 12), (.some (9, .false)), (.rdp (.mkfn (.func 33) 0) [(.tmp 3)]), [], .none⟩, ⟨(.some 13), (.some (9, .false)), (.xc (.dir 32) [(.tmp 11), (.tmp 12)] [] []), [], .none⟩, ⟨(.some 14), .none, (.pick (.tmp 9) (.const (.bool .true)) (.tmp 13)), [], .none⟩, ⟨(.some 4), .none, (.mov (.tmp 14)), [], .none⟩]) .ret))
def fc615 : FC := ⟨2, 15, [(.tmp 4)], fb615⟩
theorem fc615_eq : compF Go.Proofs.Tryd.prog 21 = some fc615 := by kernel_rfl
def fb616 : AC := (.seq (.reg [⟨(.some 2), .none, (.box 36 (.tmp 0)), [], .none⟩, ⟨(.some 3), .none, (.mov (.const (.bool .false))), [], .none⟩]) (.seq (.reg [⟨(.some 4), .none, (.faddr 0 0 (.tmp 2)), [], .none⟩, ⟨(.some 5), .none, (.load .false 1 (.tmp 4)), [], .none⟩, ⟨(.some 6), .none, (.load .false 1 (.tmp 1)), [], .none⟩, ⟨(.some 7), .none, (.bin .eql (.tmp 5) (.tmp 6)), [], .none⟩, ⟨(.some 3), .none, (.mov (.tmp 7)), [], .none⟩]) .ret))
def fc616 : FC := ⟨1, 8, [(.tmp 3)], fb616⟩
theorem fc616_eq : compF Go.Proofs.Tryd.prog 33 = some fc616 := by kernel_rfl
def fb614 : AC := (.seq (.reg [⟨(.some 2), .none, (.alloc 32 (.arr 1 (List.replicate 32 (.lit (bn 0))))), [], .none⟩]) (.seq (.seq (.reg [⟨(.some 3), .none, (.mov (.tmp 0)), [], .none⟩, ⟨(.some 4), .none, (.nilc (.tmp 3)), [], .none⟩, ⟨(.some 5), .none, (.faddr 563 4 (.tmp 4)), [], .none⟩, ⟨(.some 6), .none, (.load .true 71 (.tmp 5)), [], .none⟩, ⟨(.some 7), .none, (.mov (.tmp 0)), [], .none⟩, ⟨(.some 8), .none, (.nilc (.tmp 7)), [], .none⟩, ⟨(.some 9), .none, (.faddr 530 2 (.tmp 8)), [], .none⟩, ⟨(.some 10), .none, (.load .false 1 (.tmp 9)), [], .none⟩, ⟨(.some 11), .none, (.callv 21 [(.tmp 6), (.tmp 10)]), [], .none⟩, ⟨(.some 12), .none, (.un .not (.tmp 11)), [], .none⟩, ⟨(.some 13), .none, (.mov (.tmp 12)), [], .none⟩, ⟨(.some 14), (.some (13, .false)), (.mov (.tmp 0)), [], .none⟩, ⟨(.some 15), (.some (13, .false)), (.nilc (.tmp 14)), [], .none⟩, ⟨(.some 16), (.some (13, .false)), (.faddr 563 4 (.tmp 15)), [], .none⟩, ⟨(.some 17), (.some (13, .false)), (.faddr 3 3 (.tmp 16)), [], .none⟩, ⟨(.some 18), (.some (13, .false)), (.load .false 1 (.tmp 17)), [], .none⟩, ⟨(.some 19), (.some (13, .false)), (.bin .eql (.tmp 18) (.const (jn 7))), [], .none⟩, ⟨(.some 20), .none, (.pick (.tmp 13) (.const (.bool .true)) (.tmp 19)), [], .none⟩]) (.cond (.tmp 20) (.seq (.reg [⟨(.some 21), .none, (.build (.arr 1 (List.replicate 32 (.lit (bn 0)))) []), [], .none⟩, ⟨.none, .none, (.store 32 (.tmp 2) (.tmp 21)), [], .none⟩]) .ret) .skip)) (.seq (.reg [⟨(.some 22), .none, (.mov (.tmp 0)), [], .none⟩, ⟨(.some 23), .none, (.nilc (.tmp 22)), [], .none⟩, ⟨(.some 24), .none, (.faddr 0 0 (.tmp 23)), [], .none⟩, ⟨(.some 25), .none, (.load .false 1 (.tmp 24)), [], (.some 0)⟩, ⟨(.some 26), .none, (.mov (.tmp 0)), [], .none⟩, ⟨(.some 27), .none, (.xc (.dir 31) [(.tmp 26)] [0] []), [], .none⟩, ⟨(.some 28), .none, (.nilc (.tmp 27)), [], .none⟩, ⟨(.some 29), .none, (.faddr 34 3 (.tmp 28)), [], .none⟩, ⟨(.some 30), .none, (.load .true 32 (.tmp 29)), [], (.some 27)⟩, ⟨(.some 31), .none, (.bslice 32 (.arr 1 (List.replicate 32 (.lit (bn 0)))) 1 [(0, (.tmp 30))]), [], .none⟩, ⟨(.some 32), .none, (.rdp .nilv [(.tmp 25)]), [], .none⟩, ⟨(.some 33), .none, (.mov (.tmp 25)), [], .none⟩, ⟨(.some 34), .none, (.xc (.inv "Hash") [(.tmp 33), (.const (tx [99, 104, 101, 99, 107])), (.tmp 31)] [] []), [], .none⟩, ⟨.none, .none, (.store 32 (.tmp 2) (.tmp 34)), [], .none⟩]) .ret)))
def fc614 : FC := ⟨1, 35, [(.cell 2 .true 32)], fb614⟩
theorem fc614_eq : compF Go.Proofs.Tryd.prog 20 = some fc614 := by kernel_rfl
def fb626 : AC := (.seq (.reg [⟨(.some 2), .none, (.mov (.const (.bool .false))), [], .none⟩]) (.seq (.seq (.reg [⟨(.some 5), .none, (.mov (.tmp 0)), [], .none⟩, ⟨(.some 6), .none, (.nilc (.tmp 5)), [], .none⟩, ⟨(.some 7), .none, (.faddr 563 4 (.tmp 6)), [], .none⟩, ⟨(.some 8), .none, (.faddr 4 4 (.tmp 7)), [], .none⟩, ⟨(.some 9), .none, (.load .false 1 (.tmp 8)), [], .none⟩, ⟨(.some 10), .none, (.len .false (.tmp 9)), [], .none⟩, ⟨(.some 11), .none, (.mov (.const (jn 0))), [], .none⟩]) (.block 0 (.loop (.seq (.reg [⟨(.some 12), .none, (.bin .lss (.tmp 11) (.tmp 10)), [], .none⟩]) (.seq (.cond (.tmp 12) .skip (.exit 0)) (.seq (.block 1 (.seq (.reg [⟨(.some 13), .none, (.iaddrS 1 (.tmp 9) (.tmp 11)), [], .none⟩, ⟨(.some 14), .none, (.load .false 1 (.tmp 13)), [], .none⟩, ⟨(.some 4), .none, (.mov (.tmp 14)), [], .none⟩]) (.reg [⟨(.some 15), .none, (.mov (.tmp 0)), [], .none⟩, ⟨(.some 16), .none, (.mov (.tmp 4)), [], .none⟩, ⟨(.some 17), .none, (.build (.st [1, 1, 32, 32] [(.lit (.bool .false)), (.lit (.bool .false)), (.arr 1 (List.replicate 32 (.lit (bn 0)))), (.arr 1 (List.replicate 32 (.lit (bn 0))))]) [(0, (.const (.bool .true)))]), [], .none⟩, ⟨(.some 18), .none, (.nilc (.tmp 15)), [], .none⟩, ⟨(.some 19), .none, (.faddr 1 1 (.tmp 18)), [], .none⟩, ⟨(.some 20), .none, (.faddr 0 0 (.tmp 19)), [], .none⟩, ⟨(.some 21), .none, (.iaddrA 8 66 (.tmp 20) (.tmp 16)), [], .none⟩, ⟨.none, .none, (.store 66 (.tmp 21) (.tmp 17)), [], .none⟩]))) (.reg [⟨(.some 22), .none, (.bin .add (.tmp 11) (.const (jn 1))), [], .none⟩, ⟨(.some 11), .none, (.mov (.tmp 22)), [], .none⟩]))))))) (.seq (.reg [⟨(.some 23), .none, (.mov (.tmp 0)), [], .none⟩, ⟨(.some 24), .none, (.icall 67 (.tmp 23) []), [], .none⟩, ⟨(.some 2), .none, (.mov (.tmp 24)), [], .none⟩]) .ret)))
def fc626 : FC := ⟨1, 25, [(.tmp 2)], fb626⟩
theorem fc626_eq : compF Go.Proofs.Tryd.prog 48 = some fc626 := by kernel_rfl
def fb627 : AC := (.seq (.reg [⟨(.some 2), .none, (.mov (.const (.bool .false))), [], .none⟩]) (.seq (.reg [⟨(.some 3), .none, (.mov (.tmp 0)), [], .none⟩, ⟨(.some 4), .none, (.icall 69 (.tmp 3) []), [], .none⟩, ⟨(.some 5), .none, (.mov (.tmp 4)), [], .none⟩, ⟨(.some 6), (.some (5, .true)), (.mov (.tmp 0)), [], .none⟩, ⟨(.some 7), (.some (5, .true)), (.icall 67 (.tmp 6) []), [], .none⟩, ⟨(.some 8), .none, (.pick (.tmp 5) (.tmp 7) (.const (.bool .false))), [], .none⟩, ⟨(.some 2), .none, (.mov (.tmp 8)), [], .none⟩]) .ret))
def fc627 : FC := ⟨1, 9, [(.tmp 2)], fb627⟩
theorem fc627_eq : compF Go.Proofs.Tryd.prog 50 = some fc627 := by kernel_rfl

theorem opA_agg (o : OpV) : (opA o).isAgg = true := rfl
theorem opA_tup (o : OpV) : (opA o).isTup = false := rfl
theorem opA_sz {o : OpV} (h : OpOk o) : (opA o).sz = 71 := by simp [opA, AV.sz]
def forV (o : OpV) (who : Int) : Bool := decide (o.author = who) || o.boxes.any fun b => decide (b.to = who)
set_option maxHeartbeats 8000000 in
theorem toIs_call {H : List (Option Blk)} {c : Nat} {lc : Nat × Nat} {who : Int} (hc : H[c]? = some (some (.box lc 1 (.lit (ji who))))) (b : BoxV) :
    XCall Go.Proofs.Tryd.prog 33 [boxA b, .ptr c lc 0 []] H fun r H' => r = .lit (.bool (decide (b.to = who))) ∧ H' = H := by
  have h616 := fc616_eq
  refine XCall.le ?_
  have lcc := (List.getElem?_eq_some_iff.1 hc).1
  unfold boxA
  obtain ⟨bto, bpub, bn', bprev, body⟩ := b
  simp only
  refine XCall.ofC h616 (by show 2 ≤ 8; omega) ?_; show AC.wp _ fb616 ⟨H.length, [.st [1, 34, 1] [.lit (ji bto), .st [32, 1, 1] [keyA bpub, .lit (wn bn'), .lit (wn bprev)], .lit (tx body)], .ptr c lc 0 []] ++ List.replicate (8 - 2) .any, H ++ List.replicate 8 none⟩ (fun x s => match x with | .exit _ => False | _ => ∃ s1, Le s s1 ∧ FinX [(.tmp 3)] s1 _); unfold fb616
  generalize hN : H.length = N at *
  have q1 : ∀ L k, (H ++ L)[N + k]? = L[k]? := fun L k => cat1 N H L k hN
  have q2 : ∀ L k x, (H ++ L).set (N + k) x = H ++ L.set k x := fun L k x => cat2 N H L k x hN
  have q3 := fun L => (cat4 N H L c hN lcc).trans hc
  refine wp_sg (areg_bx rfl rfl fun l => areg_end (by simp [push_cast, q2]; exact rfl) ?_)
  by_cases h : bto = who
  · refine wp_sr (by simp [push_cast, q1, q3, h]; exact rfl) (wp_ret' ?_)
    exact ⟨_, Le.refl _, finX1 (v := .lit (.bool true)) (by simp [AS.seals, RVals, RVal, AS.ev, AS.coe]) (by simp) ⟨.lit (.bool true), H, RelLe.refl _, by simp, HpLe.trim _ _, by simp [h], rfl⟩⟩
  · refine wp_sr (by simp [push_cast, q1, q3, h]; exact rfl) (wp_ret' ?_)
    exact ⟨_, Le.refl _, finX1 (v := .lit (.bool false)) (by simp [AS.seals, RVals, RVal, AS.ev, AS.coe]) (by simp) ⟨.lit (.bool false), H, RelLe.refl _, by simp, HpLe.trim _ _, by simp [h], rfl⟩⟩

def cloF (c : Nat) (lc : Nat × Nat) : AV := .fnv (.func 33) [] [.ptr c lc 0 []]
theorem tgt_cloF (c : Nat) (lc : Nat × Nat) (x : AV) : tgtA Go.Proofs.Tryd.prog .val [cloF c lc, x] = some (33, [x, .ptr c lc 0 []]) := by kernel_rfl
theorem mkfn_cloF (c : Nat) (lc : Nat × Nat) : rdA Go.Proofs.Tryd.prog (fun _ => none) (.mkfn (.func 33) 0) [.ptr c lc 0 []] = some (cloF c lc) := by kernel_rfl
set_option maxHeartbeats 8000000 in
theorem isFor_call {o : OpV} (ho : OpOk o) (who : Int) : PCall Go.Proofs.Tryd.prog 21 [opA o, .lit (ji who)] (.val (.lit (.bool (forV o who)))) := by
  have h615 := fc615_eq
  have hcC : callable Go.Proofs.Tryd.prog 32 = true := by kernel_rfl
  have cc := fun (H : List (Option Blk)) (lc : Nat × Nat) (hc : H[3]? = some (some (.box lc 1 (.lit (ji who))))) => conB_call (H := H) (clo := cloF 3 lc) (g := 33) (as' := fun x => [boxA x, .ptr 3 lc 0 []]) (p := fun b => decide (b.to = who)) (l := o.boxes) (fun x => tgt_cloF _ _ _) rfl
    (fun L x hx => toIs_call (by rw [List.getElem?_append_left (List.getElem?_eq_some_iff.1 hc).1]; exact hc) x) ho.boxes
  have hopA : opA o = .st [1, 1, 1, 1, 1, 32, 32, 1, 1] [.lit (ji o.author), .lit (wn o.seq), .sl 32 (klA o.parents), .lit (ji o.kind), .sl 1 (o.who.map fun x => AV.lit (ji x)), keyA o.ofk, keyA o.check, .lit (tx o.text), .sl 36 (o.boxes.map fun x => boxA x)] := rfl
  unfold forV
  generalize hany : (o.boxes.any fun b => decide (b.to = who)) = any at *
  obtain ⟨_, _, _, _, o5, o6, _, _, _⟩ := ho
  generalize (o.boxes.map fun x => boxA x) = T at *
  rw [hopA]
  refine PCall.of h615 rfl ?_; show AC.wp _ fb615 (AS.init [.st [1, 1, 1, 1, 1, 32, 32, 1, 1] [.lit (ji o.author), .lit (wn o.seq), .sl 32 (klA o.parents), .lit (ji o.kind), .sl 1 (o.who.map fun x => AV.lit (ji x)), keyA o.ofk, keyA o.check, .lit (tx o.text), .sl 36 T], .lit (ji who)] 2 15) (fun x s => match x with | .exit _ => False | _ => Fin [(.tmp 4)] s _); unfold fb615 AS.init
  refine wp_sg (areg_bx rfl (by simp [AS.ev, AV.sz]) fun l1 => areg_bx rfl rfl fun l3 => areg_end (by simp [push_cast]; exact rfl) ?_)
  refine wp_sg ?_
  by_cases h : o.author = who
  · refine areg_run 5 (by simp [push_cast, h, o5, o6]; exact rfl) ?_
    refine areg_run 4 (by simp [push_cast]; exact rfl) ?_
    refine areg_end (by simp [push_cast]; exact rfl) (wp_ret' ?_)
    exact fin_tmp (by simp [RVal, AS.ev, AS.coe, h]) (by simp)
  · refine areg_run 7 (by simp [push_cast, h, o5, o6]; exact rfl) ?_
    refine areg_g (b := false) (by simp [AS.ev, AS.put]) (areg_rdp (us := [.ptr 3 l3 0 []]) rfl (mkfn_cloF _ _) ?_)
    refine areg_run 0 (by simp [push_cast]; exact rfl) ?_
    refine areg_g (b := false) (by simp [AS.ev, AS.put]) (areg_xq (us := [.sl 36 T, cloF 3 l3]) rfl (by simp only [tgtA, tgtB, Option.bind_some, hcC, if_true]) (cc _ l3 rfl) ⟨_, _, rfl, rfl⟩ (fun r hp' _ t' ht' => by cases ht') ?_)
    rintro r H' ⟨rfl, rfl⟩
    refine areg_end (by simp [push_cast]; exact rfl) (wp_ret' ?_)
    exact fin_tmp (by simp [RVal, AS.ev, AS.coe, h]) (by simp)

/-! ### check -/
set_option maxHeartbeats 16000000 in
/-- The check of an operation that is for oneself. -/
theorem check_call {G : List (Option Blk)} {t : Tb} {S : Sb} {x : StV} {Vc V : Value} {ts : List Term} (hh : StT G t S x Vc V ts) (hn : ts.length < 90000) (ho : OpOk x.o) {a : Nat} (ha : AuOk x a) {r : Rat} (hr : x.rats[a]? = some r) (hk : r.key.length = 32) (hc : r.chain.length = 32) (hf : forV x.o x.me = true) (h7 : x.o.kind ≠ 7) :
    XCall Go.Proofs.Tryd.prog 20 [.ptr S.b S.l 0 []] G fun r' H' => r' = keyA (nameK (putN ts (chkT r.chain))) ∧ ∃ V', H' = tbOf G t V' (putT ts (chkT r.chain)) := by
  have h614 := fc614_eq
  refine XCall.le ?_
  have hself := hh.self
  have G1 : ∀ Y Z V' ts', (tbOf (stB G S Y Z) t V' ts').length = G.length := fun Y Z V' ts' => stB_len _ _ _ _ _ _ _
  have g1 : ∀ Y Z V' ts' L k, (tbOf (stB G S Y Z) t V' ts' ++ L)[G.length + k]? = L[k]? := fun Y Z V' ts' L k => cat1 _ _ _ _ (G1 _ _ _ _)
  have g2 : ∀ Y Z V' ts' L k x, (tbOf (stB G S Y Z) t V' ts' ++ L).set (G.length + k) x = tbOf (stB G S Y Z) t V' ts' ++ L.set k x := fun Y Z V' ts' L k x => cat2 _ _ _ _ _ (G1 _ _ _ _)
  have gb := hh.gb
  have ac := fun Vc V ts L => author_call (G := tbOf (stB G S (sbk t S x Vc) (swk x Vc)) t V ts ++ L) (gb _ _ _ _ _) ha
  have isf := isFor_call ho x.me
  rw [hf] at isf
  have hkk := hash_k (hh.st.tb hh.tb x Vc) (ts := ts) (by omega) (s := txCheck) (by simp [txCheck]) (ks := [r.chain]) (by simp) (by simp [hc])
  have hmt : (⟨2, txCheck, [r.chain]⟩ : Term) = chkT r.chain := rfl
  rw [hmt] at hkk
  have kl := nameK_len (putN ts (chkT r.chain))
  generalize nameK (putN ts (chkT r.chain)) = kk at *
  generalize putT ts (chkT r.chain) = ts2 at *
  obtain ⟨h1, h2, h3⟩ := ha
  have hA : (x.rats.map ratA).length = 8 := by rw [List.length_map]; exact h3
  have hwA : a < (x.rats.map ratA).length := by omega
  have hg : (x.rats.map ratA)[a]? = some (.st [1, 1, 32, 32] [.lit (.bool r.known), .lit (.bool r.open_), keyA r.key, keyA r.chain]) := by rw [List.getElem?_map, hr]; rfl
  have hg4 : ∀ h, (x.rats.map ratA)[a]'h = .st [1, 1, 32, 32] [.lit (.bool r.known), .lit (.bool r.open_), keyA r.key, keyA r.chain] := fun h => by rw [List.getElem?_eq_getElem h] at hg; exact Option.some.inj hg
  have e1 : ∀ n, 1 + (a * 66 + n) = 1 + a * 66 + n := fun n => by omega
  refine XCall.of h614 rfl ?_; show AC.wp _ fb614 ⟨G.length, [.ptr S.b S.l 0 []] ++ List.replicate (35 - 1) .any, G ++ List.replicate 35 none⟩ (fun x s => match x with | .exit _ => False | _ => ∃ s1, Le s s1 ∧ FinX [(.cell 2 .true 32)] s1 _); unfold fb614
  rw [← hself]
  unfold stOf
  rw [stB_len]
  generalize hN : G.length = N at *
  refine wp_sg (areg_al' zk_eq.symm fun l2 => areg_end (by simp [push_cast, g1, g2]; exact rfl) ?_)
  refine wp_seq' (wp_seq' (wp_rg ?_))
  refine areg_run 8 (by simp [push_cast, gb, sbk, stA, opA]; exact rfl) ?_
  refine areg_cv (by simp [AS.ev, AS.coe, AS.put] <;> exact rfl) isf ?_
  refine areg_end (by simp [push_cast, gb, opA, h7]; exact rfl) ?_
  refine wp_cond_f (by simp [AS.ev]) (wp_skip' ?_)
  refine wp_sg ?_
  refine areg_run 5 (by simp [push_cast, gb, freeI]; exact rfl) ?_
  refine areg_xq (us := [.ptr S.b S.l 0 []]) rfl (tgt_author _) (ac _ _ _ _) ⟨_, _, rfl, rfl⟩ (fun r hp' hK t' ht' b hb => by obtain ⟨_, rfl⟩ := hK; rfl) ?_
  rintro r' H' ⟨rfl, rfl⟩
  refine areg_run 3 (by simp [push_cast, autP, gb, sbk, stA, hA, hwA, hg, hg4, h2, e1, hc]; exact rfl) ?_
  refine areg_bsl (k := 32) (els := klA [r.chain]) (fill_ar rfl rfl rfl (by simp [AV.sz, AS.ev, AS.put, hc, bl_len]) rfl) ?_
  refine areg_run 2 (by simp [push_cast]; exact rfl) ?_
  refine areg_k (H := stOf G t S x Vc) [freeI t.b t.l, .lit (tx txCheck), .sl 32 (klA [r.chain])] (by rw [stOf_len]; exact hN) rfl (tgt_hashI _ _ _ _) hkk (by simp) (by simp [AS.ev, AV.place]) fun V2 => ?_
  unfold stOf
  refine areg_end (by simp [push_cast, g1, g2, kl]; exact rfl) (wp_ret' ?_)
  refine ⟨_, Le.refl _, [], _, ⟨by simp [AS.seals, RVals, RVal, AS.ev, AS.peek, AS.blk, g1, Blk.loc, Blk.cont, Blk.n, AV.nav, AV.isAgg, AV.isTup, AS.coe]; rfl, by simp [keyA]⟩, keyA kk, _, RelLe.refl _, by simp [keyA], HpLe.trim _ _, rfl, V2, ?_⟩
  exact ((hh.st.tb hh.tb x Vc).of_of _ _ _ _).symm
end Go.Cab
