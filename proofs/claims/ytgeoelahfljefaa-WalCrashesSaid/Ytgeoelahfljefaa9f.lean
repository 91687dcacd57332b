/- Layer 9: a log on a device that keeps its power; lists of bytes held against each other. -/
import Derived.Test.Ytgeoelahfljefaa9e
set_option linter.unusedVariables false
set_option maxRecDepth 100000
namespace Go.Proofs.Ytgeoelahfljefaa
open Go Go.Vc Go.Proofs
/-- A log's pages, as they are read. -/
def reg (D : Dev) (start count : Nat) : List (List UInt8) := (D.seen.drop start).take count
theorem scanD_reg (D : Dev) (start count least : Nat) : scanD D start count least = scanL (reg D start count) 0 least 0 [] [] 0 := rfl
theorem reg_length {D : Dev} {n start count : Nat} (w : D.Wf n) (h : start + count ≤ n) : (reg D start count).length = count := by
  rw [reg, List.length_take, List.length_drop, w.seenLen]; omega
theorem reg_set {D D' : Dev} {start count j : Nat} {x : List UInt8} (he : D'.seen = D.seen.set (start + j) x) (hj : j < count) : reg D' start count = (reg D start count).set j x := by
  unfold reg
  rw [he]
  apply List.ext_getElem?
  intro i
  simp only [List.getElem?_take, List.getElem?_drop, List.getElem?_set, List.length_take, List.length_drop]
  by_cases hi : i < count
  · rw [if_pos hi]
    by_cases hij : j = i
    · subst hij
      simp only [if_true]
      by_cases hl : start + j < D.seen.length
      · rw [if_pos hl, if_pos (by omega)]
      · rw [if_neg hl, if_neg (by omega)]
    · rw [if_neg (by omega), if_neg hij, if_pos hi]
  · rw [if_neg hi, if_neg (by omega), if_neg hi]
theorem reg_new {n start count : Nat} (h : start + count ≤ n) : reg (newD n) start count = List.replicate count zeroP := by
  have e : (newD n).seen = List.replicate n zeroP := rfl
  unfold reg
  rw [e, List.drop_replicate, List.take_replicate]
  congr 1
  omega
/-- A device that keeps its power. -/
structure On (D : Dev) (n : Nat) : Prop where
  wf : D.Wf n
  up : D.down = false
  fuse : D.fuse = -1
theorem On.op {D : Dev} {n : Nat} (o : On D n) : opD D = D := opD_neg (by rw [o.fuse]; omega)
theorem On.write {D : Dev} {n i : Nat} {xs : List UInt8} (o : On D n) (hi : i < n) (hx : xs.length = 128) :
    (writeD D (i : Int) xs).1 = 0 ∧ On (writeD D (i : Int) xs).2 n ∧ (writeD D (i : Int) xs).2.seen = D.seen.set i xs ∧ (writeD D (i : Int) xs).2.lasts = D.lasts := by
  have hw := writeD_zero o.wf o.up hi hx (by rw [o.op]; exact o.up)
  have wf := writeD_wf o.wf (i : Int) xs
  rw [hw, o.op] at *
  exact ⟨rfl, ⟨wf, o.up, o.fuse⟩, by unfold Dev.seen; rw [applyQ_snoc], rfl⟩
theorem On.flush {D : Dev} {n : Nat} (o : On D n) : (flushD D).1 = 0 ∧ On (flushD D).2 n ∧ (flushD D).2.seen = D.seen := by
  have hf := flushD_zero o.up (by rw [o.op]; exact o.up)
  have wf := flushD_wf o.wf
  rw [hf, o.op] at *
  exact ⟨rfl, ⟨wf, o.up, o.fuse⟩, rfl⟩
theorem on_new {n : Nat} (h : n ≤ 4096) : On (newD n) n := ⟨newD_wf h, rfl, rfl⟩
theorem put_reg {n : Nat} {L : Lg} (lw : L.Wf n) (bs : List UInt8) : ∀ (k i : Nat) (D : Dev) (A C : List (List UInt8)), On D n → reg D L.start L.count = A ++ C → A.length = L.next + i → k ≤ C.length →
    (putA L bs k i D).1 = 0 ∧ On (putA L bs k i D).2 n ∧ reg (putA L bs k i D).2 L.start L.count = A ++ (recQ L.gen L.next bs (partsN bs.length) k i ++ C.drop k)
  | 0, i, D, A, C, o, hr, _, _ => ⟨rfl, o, by rw [recQ, List.nil_append, List.drop_zero]; exact hr⟩
  | k + 1, i, D, A, [], o, hr, ha, hk => by simp at hk
  | k + 1, i, D, A, c :: C, o, hr, ha, hk => by
    have hl := reg_length o.wf lw.room
    have h1 := lw.room
    rw [hr, List.length_append, List.length_cons, ha] at hl
    obtain ⟨e0, o', es, _⟩ := o.write (i := L.start + L.next + i) (xs := pageA L bs i) (by omega) (pageA_len L bs i)
    rw [putA_succ, if_neg (by simpa using e0)]
    have hr' := reg_set (D := D) (j := L.next + i) (by rw [← Nat.add_assoc]; exact es) (show L.next + i < L.count by omega)
    rw [hr, List.set_append_right _ _ (by omega), ha, Nat.sub_self, List.set_cons_zero] at hr'
    obtain ⟨f0, f1, f2⟩ := put_reg lw bs k (i + 1) _ (A ++ [pageA L bs i]) C o' (by rw [hr']; simp) (by simp [ha]; omega) (by simpa using hk)
    refine ⟨f0, f1, ?_⟩
    rw [f2, recQ, List.drop_succ_cons]
    simp [pageA]
/-- What a log holds. -/
structure Hold (D : Dev) (L : Lg) (n : Nat) (rs : List (List UInt8)) : Prop where
  on : On D n
  lwf : L.Wf n
  gen1 : 1 ≤ L.gen
  over : L.over = false
  next : L.next = partsS rs
  small : ∀ b ∈ rs, b.length ≤ 6000
  pages : reg D L.start L.count = recsP L.gen 0 rs ++ List.replicate (L.count - L.next) zeroP
theorem Hold.append {D : Dev} {L : Lg} {n : Nat} {rs : List (List UInt8)} (i : Hold D L n rs) (b : List UInt8) :
    (6000 < b.length ∧ appendD L D b = (3, L, D)) ∨ (b.length ≤ 6000 ∧ L.count < L.next + partsN b.length ∧ appendD L D b = (5, L, D)) ∨
    (b.length ≤ 6000 ∧ L.next + partsN b.length ≤ L.count ∧ (appendD L D b).1 = 0 ∧ (appendD L D b).2.1 = { L with next := L.next + partsN b.length } ∧ Hold (appendD L D b).2.2 { L with next := L.next + partsN b.length } n (rs ++ [b])) := by
  have e : appendD L D b = if 6000 < b.length then (3, L, D) else if L.count < L.next + partsN b.length then (5, L, D)
    else if (putA L b (partsN b.length) 0 D).1 ≠ 0 then ((putA L b (partsN b.length) 0 D).1, overL L (putA L b (partsN b.length) 0 D).1, (putA L b (partsN b.length) 0 D).2)
    else (0, { L with next := L.next + partsN b.length }, (putA L b (partsN b.length) 0 D).2) := by rw [appendD, i.over]; rfl
  rw [e]
  by_cases h1 : 6000 < b.length
  · rw [if_pos h1]; exact .inl ⟨h1, rfl⟩
  rw [if_neg h1]
  by_cases h2 : L.count < L.next + partsN b.length
  · rw [if_pos h2]; exact .inr (.inl ⟨by omega, h2, rfl⟩)
  rw [if_neg h2]
  obtain ⟨f0, f1, f2⟩ := put_reg i.lwf b (partsN b.length) 0 D _ _ i.on i.pages (by rw [recsP_length, i.next, Nat.add_zero]) (by rw [List.length_replicate]; omega)
  rw [if_neg (by simpa using f0)]
  refine .inr (.inr ⟨by omega, by omega, rfl, rfl, f1, ⟨by dsimp only; omega, i.lwf.room, i.lwf.max, i.lwf.gen⟩, i.gen1, i.over, ?_, ?_, ?_⟩)
  · dsimp only
    rw [partsS_snoc, i.next]
  · intro x hx
    rcases List.mem_append.1 hx with h | h
    · exact i.small x h
    · rw [List.mem_singleton.1 h]; omega
  · dsimp only
    rw [f2, recsP_snoc, List.drop_replicate, List.append_assoc, Nat.zero_add, ← i.next]
    congr 2
    congr 1
    omega
theorem Hold.scan {D : Dev} {L : Lg} {n : Nat} {rs : List (List UInt8)} (i : Hold D L n rs) {least : Nat} (h : least ≤ L.gen) : scanD D L.start L.count least = (rs, L.next) := by
  have h1 := i.lwf.room
  have h2 := i.lwf.max
  have h3 := i.lwf.next
  rw [scanD_reg, i.pages]
  obtain ⟨l', _, _, e⟩ := scan_recs i.lwf.gen i.gen1 (rest := List.replicate (L.count - L.next) zeroP) rs 0 least [] i.small (by rw [← i.next]; omega) h
  rw [e, scan_zero, i.next]
  simp
theorem Hold.scanMore {D : Dev} {L : Lg} {n : Nat} {rs : List (List UInt8)} (i : Hold D L n rs) {least : Nat} (h : L.gen < least) : scanD D L.start L.count least = ([], 0) := by
  have h1 := i.lwf.room
  have h2 := i.lwf.max
  have h3 := i.lwf.next
  have hn := i.next
  have hp := i.pages
  have hs := i.small
  rw [scanD_reg, hp]
  cases rs with
  | nil => rw [recsP, List.nil_append, scan_zero]
  | cons b r =>
    rw [partsS] at hn
    rw [recsP, List.append_assoc, scan_less (hs b (List.mem_cons_self ..)) i.lwf.gen (by omega) h]
theorem hold_new {n start count gen d : Nat} (h : start + count ≤ n) (hn : n ≤ 4096) (hg : gen < 4294967296) (hg1 : 1 ≤ gen) : Hold (newD n) ⟨d, start, count, gen, 0, false⟩ n [] :=
  ⟨on_new hn, ⟨Nat.zero_le _, h, hn, hg⟩, hg1, rfl, rfl, fun x hx => (by cases hx), by rw [reg_new h]; rfl⟩
theorem scan_new {n start count least : Nat} (h : start + count ≤ n) : scanD (newD n) start count least = ([], 0) := by rw [scanD_reg, reg_new h, scan_zero]

/- ### Lists of bytes -/
section
variable {h0 h : Heap} {F : List HP} {b n : Nat} {D : Dev}
theorem few2_ok {p : Option Addr} {l c : Nat} {S : List Pg} (hS : Bls h p l S) (n most : Nat) (hn : n ≤ 200) :
    CallsH Try.prog n_ref02_Few #[.slice p l c, .int .i64 n, .int .i64 most] h fun v h' => (∃ t, v = .bool t ∧ (t = true → S.length ≤ n ∧ ∀ e ∈ S, e.2.length ≤ most)) ∧ h' = h := by
  refine C_ref02_Few p l c n most ?_
  unfold F_ref02_Few
  have hlen := hS.1
  refine ⟨fun i h' => h' = h ∧ ∃ k : Nat, i = k ∧ k ≤ l ∧ ∀ j (hj : j < S.length), j < k → S[j].2.length ≤ most, fun i _ => (l - i).toNat, ⟨rfl, 0, rfl, Nat.zero_le _, fun j _ hj => by omega⟩, ?_⟩
  rintro i h3 ⟨rfl, k, rfl, hk, hall⟩
  have bad : (∃ t, Value.bool false = .bool t ∧ (t = true → S.length ≤ n ∧ ∀ e ∈ S, e.2.length ≤ most)) := ⟨false, rfl, fun ht => by cases ht⟩
  rw [br_decide]
  refine ⟨fun hlt => ?_, fun hge => ⟨⟨_, rfl, fun ht => ?_⟩, by trivial⟩⟩
  · rw [br_decide]
    refine ⟨fun h200 => ⟨by omega, hlt, ?_⟩, fun h200 => ⟨⟨_, rfl, fun ht => ?_⟩, by trivial⟩⟩
    · obtain ⟨a, rfl, hc, hb⟩ := hS.get (i := k) (by omega)
      simp only [deref_some, Int.toNat_natCast, Nat.mul_one]
      refine ⟨_, _, _, hc, ?_⟩
      have hbl := hb.1
      rw [br_decide]
      refine ⟨fun _ => ⟨bad, by trivial⟩, fun hle => ?_⟩
      rw [wrap_i64 (by omega) (by omega)]
      refine ⟨⟨by trivial, k + 1, by omega, by omega, fun j hj hjk => ?_⟩, by omega⟩
      by_cases hjk' : j = k
      · subst hjk'; omega
      · exact hall j hj (by omega)
    · have := of_decide_eq_true ht
      omega
  · have := of_decide_eq_true ht
    refine ⟨by omega, fun e he => ?_⟩
    obtain ⟨j, hj, rfl⟩ := List.mem_iff_getElem.1 he
    exact hall j hj (by omega)
theorem same2_ok {p q : Option Addr} {l m c d : Nat} {S T : List Pg} (hS : Bls h p l S) (hT : Bls h q m T) (hl : l ≤ 70368744177664) (hs : ∀ e ∈ S, e.2.length ≤ 70368744177664) :
    CallsH Try.prog n_ref02_Same #[.slice p l c, .slice q m d] h fun v h' => v = .bool (decide (rL S = rL T)) ∧ h' = h := by
  refine C_ref02_Same p l c q m d ?_
  unfold F_ref02_Same
  have hSl := hS.1
  have hTl := hT.1
  rw [br_bne]
  refine ⟨fun hne => ⟨by rw [decide_eq_false]; intro e; have := congrArg List.length e; simp [rL] at this; omega, by trivial⟩, fun he => ?_⟩
  refine ⟨fun i h' => h' = h ∧ ∃ k : Nat, i = k ∧ k ≤ l ∧ ∀ j (h1 : j < S.length) (h2 : j < T.length), j < k → S[j].2 = T[j].2, fun i _ => (l - i).toNat, ⟨rfl, 0, rfl, Nat.zero_le _, fun j _ _ hj => by omega⟩, ?_⟩
  rintro i h3 ⟨rfl, k, rfl, hk, hall⟩
  rw [br_decide]
  refine ⟨fun hlt => ⟨by omega, hlt, ?_⟩, fun hge => ⟨?_, by trivial⟩⟩
  · obtain ⟨a, rfl, hc, hb⟩ := hS.get (i := k) (by omega)
    obtain ⟨a', rfl, hc', hb'⟩ := hT.get (i := k) (by omega)
    simp only [deref_some, Int.toNat_natCast, Nat.mul_one]
    refine ⟨_, _, _, hc, by omega, by omega, _, _, _, hc', ?_⟩
    refine (same_ok hb hb' (by have := hb.1; have := hs _ (List.getElem_mem (show k < S.length by omega)); omega)).mono fun v h13 ⟨hv, hh⟩ => ?_
    subst hh
    refine ⟨Ext.refl _, _, hv, ?_⟩
    by_cases e : S[k].2 = T[k].2
    · refine br_no (by rw [decide_eq_true e]; rfl) ?_
      rw [wrap_i64 (by omega) (by omega)]
      refine ⟨⟨by trivial, k + 1, by omega, by omega, fun j h1 h2 hj => ?_⟩, by omega⟩
      by_cases hjk : j = k
      · subst hjk; exact e
      · exact hall j h1 h2 (by omega)
    · refine br_yes (by rw [decide_eq_false e]; rfl) ⟨?_, by trivial⟩
      rw [decide_eq_false]
      intro e'
      apply e
      have h1 : (rL S)[k]? = some S[k].2 := by simp [rL, List.getElem?_eq_getElem (show k < S.length by omega)]
      have h2 : (rL T)[k]? = some T[k].2 := by simp [rL, List.getElem?_eq_getElem (show k < T.length by omega)]
      rw [e', h2] at h1
      exact (Option.some.inj h1).symm
  · rw [decide_eq_true]
    apply List.ext_getElem
    · simp [rL]; omega
    · intro j h1 h2
      simp only [rL, List.length_map] at h1 h2
      simp only [rL, List.getElem_map]
      exact hall j h1 h2 (by omega)
theorem ahead_ok {p q : Option Addr} {l m c d : Nat} {S T : List Pg} (hS : Bls h p l S) (hT : Bls h q m T) (hl : l ≤ 70368744177664) (hs : ∀ e ∈ S, e.2.length ≤ 70368744177664) :
    CallsH Try.prog n_ref09_Ahead #[.slice p l c, .slice q m d] h fun v h' => v = .bool (decide (rL S <+: rL T)) ∧ h' = h := by
  refine C_ref09_Ahead p l c q m d ?_
  unfold F_ref09_Ahead
  have hSl := hS.1
  have hTl := hT.1
  rw [br_decide]
  refine ⟨fun hgt => ⟨by rw [decide_eq_false]; intro e; have := e.length_le; simp [rL] at this; omega, by trivial⟩, fun hle => ?_⟩
  refine ⟨fun i h' => h' = h ∧ ∃ k : Nat, i = k ∧ k ≤ l ∧ ∀ j (h1 : j < S.length) (h2 : j < T.length), j < k → S[j].2 = T[j].2, fun i _ => (l - i).toNat, ⟨rfl, 0, rfl, Nat.zero_le _, fun j _ _ hj => by omega⟩, ?_⟩
  rintro i h3 ⟨rfl, k, rfl, hk, hall⟩
  rw [br_decide]
  refine ⟨fun hlt => ⟨by omega, hlt, ?_⟩, fun hge => ⟨?_, by trivial⟩⟩
  · obtain ⟨a, rfl, hc, hb⟩ := hS.get (i := k) (by omega)
    obtain ⟨a', rfl, hc', hb'⟩ := hT.get (i := k) (by omega)
    simp only [deref_some, Int.toNat_natCast, Nat.mul_one]
    refine ⟨_, _, _, hc, by omega, by omega, _, _, _, hc', ?_⟩
    refine (same_ok hb hb' (by have := hb.1; have := hs _ (List.getElem_mem (show k < S.length by omega)); omega)).mono fun v h13 ⟨hv, hh⟩ => ?_
    subst hh
    refine ⟨Ext.refl _, _, hv, ?_⟩
    by_cases e : S[k].2 = T[k].2
    · refine br_no (by rw [decide_eq_true e]; rfl) ?_
      rw [wrap_i64 (by omega) (by omega)]
      refine ⟨⟨by trivial, k + 1, by omega, by omega, fun j h1 h2 hj => ?_⟩, by omega⟩
      by_cases hjk : j = k
      · subst hjk; exact e
      · exact hall j h1 h2 (by omega)
    · refine br_yes (by rw [decide_eq_false e]; rfl) ⟨?_, by trivial⟩
      rw [decide_eq_false]
      rintro ⟨r, e'⟩
      apply e
      have h1 : (rL S ++ r)[k]? = some S[k].2 := by
        rw [List.getElem?_append_left (by simp [rL]; omega)]
        simp [rL, List.getElem?_eq_getElem (show k < S.length by omega)]
      have h2 : (rL T)[k]? = some T[k].2 := by simp [rL, List.getElem?_eq_getElem (show k < T.length by omega)]
      rw [e', h2] at h1
      exact (Option.some.inj h1).symm
  · rw [decide_eq_true]
    rw [List.prefix_iff_eq_take]
    apply List.ext_getElem
    · simp [rL]; omega
    · intro j h1 h2
      simp only [rL, List.length_map] at h1 h2
      simp only [rL, List.getElem_take, List.getElem_map]
      exact hall j h1 (by simp at h2; omega) (by omega)
end
end Go.Proofs.Ytgeoelahfljefaa
