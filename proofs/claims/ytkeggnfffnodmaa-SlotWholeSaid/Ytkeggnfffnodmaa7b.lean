/- The device of layer 7: writes, flushes, restarts, and how one is made. -/
import Derived.Test.Ytkeggnfffnodmaa7a
set_option linter.unusedVariables false
set_option maxRecDepth 100000
namespace Go.Proofs.Ytkeggnfffnodmaa
open Go Go.Vc Go.Proofs
section
variable {h0 h : Heap} {F : List HP} {b n : Nat} {D : Dev}

theorem qRow_one (w : Nat × List UInt8) : ∀ v ∈ qRow w, v.oneCell' = true := fun v hv => by
  rcases List.mem_cons.1 hv with h | h
  · subst h; rfl
  · exact one_bcs _ v h
theorem qRow_length (w : Nat × List UInt8) : (qRow w).length = w.2.length + 1 := by simp [qRow, bcs_length]
theorem pages_lay {L : List (List UInt8)} {i : Nat} {ys : List UInt8} (hi : i < L.length) (hL : ∀ p ∈ L, p.length = 128) (hy : ys.length ≤ 128) : lay (pagesC L) (i * 128) (bcs ys) = pagesC (L.set i (ys ++ (L.getD i []).drop ys.length)) := by
  unfold pagesC
  have := lay_rows (i := i) (x := 0) (l := bcs ys) (pages_rows hL) (by simpa using hi) (by simpa [bcs_length] using hy)
  rw [Nat.add_zero] at this
  rw [this, List.map_set]
  congr 2
  simp [lay, bcs_append, bcs_drop, bcs_length, List.getD_eq_getElem?_getD, hi]
theorem queue_add (Q : List (Nat × List UInt8)) (w : Nat × List UInt8) : queueC Q ++ qRow w = queueC (Q ++ [w]) := by simp [queueC]
theorem write_ok {xs : List UInt8} {p : Option Addr} {l c : Nat} (hs : St h0 h (Dv b D :: rdo 1 p l (bcs xs) :: F)) (w : D.Wf n) (i : Int) (hq : D.queue.length ≤ 1000000) :
    CallsH Try.prog n_device_Device_Write #[ptr b, .int .i64 i, .slice p l c] h fun v h' => v = .int .i64 (writeD D i xs).1 ∧ St h0 h' (Dv b (writeD D i xs).2 :: rdo 1 p l (bcs xs) :: F) := by
  refine C_device_Device_Write (some (Addr.mk b 0 none)) i p l c ?_
  unfold F_device_Device_Write
  have hxl := (bs_rdo hs.up1.at).1
  refine (reach_ok hs.at i).mono fun v h1 ⟨hv, hh⟩ => ?_
  subst hh
  refine ⟨Ext.refl _, _, hv, ?_⟩
  rw [br_bne]
  refine ⟨fun hne => ?_, fun heq => ?_⟩
  · have e : writeD D i xs = (reachE D i, D) := by rw [writeD, if_pos hne]
    rw [e]; exact ⟨rfl, hs⟩
  have hr0 : ¬ reachE D i ≠ 0 := by simpa using heq
  rw [br_bne]
  refine ⟨fun hne => ?_, fun hl => ?_⟩
  · have e : writeD D i xs = (1, D) := by rw [writeD, if_neg hr0, if_pos (by omega)]
    rw [e]; exact ⟨rfl, hs⟩
  obtain ⟨hd, hi0, hi1⟩ := reach_in w heq
  refine (operates_ok hs w hd).mono fun v h2 ⟨hv, hs2⟩ => ⟨_, hv, ?_⟩
  clear hs
  have hx : xs.length = 128 := by omega
  have hnx : ¬ xs.length ≠ 128 := by omega
  rw [Bool.not_not]
  cases hdo : (opD D).down
  rotate_left
  · have e : writeD D i xs = (6, opD D) := by rw [writeD, if_neg hr0, if_neg hnx, if_pos hdo]
    rw [e]
    exact br_yes rfl ⟨rfl, hs2⟩
  have e : writeD D i xs = (0, { opD D with queue := D.queue ++ [(i.toNat, xs)] }) := by rw [writeD, if_neg hr0, if_neg hnx, if_neg (by simp [hdo])]
  rw [e]
  refine br_no rfl ⟨by omega, ?_⟩
  have wo := opD_wf w
  rw [← opD_queue D] at hq ⊢
  generalize opD D = D' at *
  obtain ⟨i, rfl⟩ : ∃ k : Nat, i = k := ⟨i.toNat, by omega⟩
  have hbs := bs_rdo hs2.up1.at
  obtain ⟨a, rfl, _⟩ := hbs.cell (i := 0) (by omega)
  have hrow : Vc.row h2 a 128 = some (bcs xs).toArray := by
    have := hbs.2.2
    have hl' : l = 128 := by omega
    simpa [src, hl', bcs_eq] using this
  simp only [deref_some, add_mk, Nat.zero_add]
  refine ⟨_, hrow, by simp [bcs_length, hx], hs2.newBlk fun b8 h9 _ s _ => ?_⟩
  have eq : (Value.int .i64 (i : Int) :: ((bcs xs).toArray.toList ++ [])) = qRow (i, xs) := by simp [qRow]
  rw [eq]
  have hql : (qRow (i, xs)).length = 129 := by simp [qRow_length, hx]
  refine s.storeAll (by simp) (by simpa using hql) (one_list (qRow_one _)) fun h10 s => ?_
  obtain ⟨p, c, p2, c2, q, qc, s⟩ := Dv.op s.up1
  have s := s.up4
  refine ⟨q, _, qc, s.up1.cell0 (i := 2) rfl, _, s.row0 (by simpa using hql), by simpa using hql, s.newBlk fun b16 h17 _ s _ => ?_⟩
  simp only [List.append_nil] at s ⊢
  refine St.append (xs := qRow (i, xs)) s.up5 ⟨by simpa using hql, by simp only [src, Nat.one_mul]; exact s.row0 (by simpa using hql)⟩ (qRow_one _) (by simp) (by omega) (by unfold maxLen; omega) fun p' c' h21 s _ => ?_
  refine s.up3.store0 (by simp) rfl fun h23 s => ?_
  refine ⟨_, _, _, s.cell0 (i := 1) rfl, ?_⟩
  refine ⟨_, s.up3.rowAt (i := 1) (n := 128) (by simp; omega), by omega, by have := wo.len; omega, ?_⟩
  have hrows := pages_rows wo.seenPages
  have hsl := wo.seenLen
  have hlen := wo.len
  obtain ⟨b2, o2, rfl, _⟩ := s.up5.rowGet hrows (by omega) (i := i) (by simp; omega)
  simp only [deref_some, add_mk, Int.toNat_natCast]
  have ex : (List.take 128 (List.drop 1 (qRow (i, xs)))) = bcs xs := by
    simp only [qRow, List.drop_succ_cons, List.drop_zero]
    exact List.take_of_length_le (by rw [bcs_length]; omega)
  rw [ex]
  refine s.up5.ownStore (by simp [bcs_length, hx]) (by omega) (one_list (one_bcs _)) fun h30 s => ⟨by trivial, ?_⟩
  have el : lay (pagesC D'.seen) (i * 128) (bcs xs).toArray.toList = pagesC ({ D' with queue := D'.queue ++ [(i, xs)] } : Dev).seen := by
    show lay _ _ (bcs xs) = _
    rw [pages_lay (by omega) wo.seenPages (by omega), List.drop_of_length_le, List.append_nil]
    · show _ = pagesC (applyQ _ _)
      rw [applyQ_snoc]; rfl
    · have hg := wo.seenPages (D'.seen.getD i []) (by rw [List.getD_eq_getElem?_getD, List.getElem?_eq_getElem (by omega)]; exact List.getElem_mem _)
      omega
  rw [el, queue_add] at s
  have s := (s.up3.drop).up3.drop
  refine Dv.cl (D := { D' with queue := D'.queue ++ [(i, xs)] }) (p := p) (c := c) (p2 := some (Addr.mk b2 o2 none)) (c2 := c2) (q := p') (qc := c') ?_
  have ln : ({ D' with queue := D'.queue ++ [(i, xs)] } : Dev).queue.length = D'.queue.length + 1 := by simp
  rw [ln]
  exact s.up3.up2

theorem queue_get {Q : List (Nat × List UInt8)} {k : Nat} (hk : k < Q.length) (hl : k < (Q.map qRow).length) : (Q.map qRow)[k] = qRow Q[k] := by simp
theorem applyQ_take {L : List (List UInt8)} {Q : List (Nat × List UInt8)} {k : Nat} (hk : k < Q.length) : applyQ L (Q.take (k + 1)) = (applyQ L (Q.take k)).set Q[k].1 Q[k].2 := by
  rw [List.take_succ_eq_append_getElem hk, applyQ_snoc]
theorem pages_set {L : List (List UInt8)} {i : Nat} {ys : List UInt8} (hi : i < L.length) (hL : ∀ p ∈ L, p.length = 128) (hy : ys.length = 128) : lay (pagesC L) (i * 128) (bcs ys) = pagesC (L.set i ys) := by
  rw [pages_lay hi hL (by omega), List.drop_of_length_le, List.append_nil]
  have hg := hL (L.getD i []) (by rw [List.getD_eq_getElem?_getD, List.getElem?_eq_getElem (by omega)]; exact List.getElem_mem _)
  omega
theorem flush_ok (hs : St h0 h (Dv b D :: F)) (w : D.Wf n) (hq : D.queue.length ≤ 1000000) :
    CallsH Try.prog n_device_Device_Flush #[ptr b] h fun v h' => v = .int .i64 (flushD D).1 ∧ St h0 h' (Dv b (flushD D).2 :: F) := by
  refine C_device_Device_Flush (some (Addr.mk b 0 none)) ?_
  unfold F_device_Device_Flush
  refine (down_ok hs.at).mono fun v h1 ⟨hv, hh⟩ => ?_
  subst hh
  refine ⟨Ext.refl _, _, hv, ?_⟩
  cases hd : D.down
  rotate_left
  · have e : flushD D = (6, D) := by rw [flushD, if_pos hd]
    rw [e]
    exact br_yes rfl ⟨rfl, hs⟩
  refine br_no rfl ((operates_ok hs w hd).mono fun v h2 ⟨hv, hs2⟩ => ⟨_, hv, ?_⟩)
  clear hs
  rw [Bool.not_not]
  cases hdo : (opD D).down
  rotate_left
  · have e : flushD D = (6, opD D) := by rw [flushD, if_neg (by simp [hd]), if_pos hdo]
    rw [e]
    exact br_yes rfl ⟨rfl, hs2⟩
  have e : flushD D = (0, { opD D with lasts := (opD D).seen, queue := [] }) := by rw [flushD, if_neg (by simp [hd]), if_neg (by simp [hdo])]; simp only [Dev.seen, opD_lasts, opD_queue]
  rw [e]
  refine br_no rfl ?_
  have wo := opD_wf w
  rw [← opD_queue D] at hq
  generalize opD D = D' at *
  obtain ⟨p, c, p2, c2, q, qc, s⟩ := Dv.op hs2
  have hlen := wo.len
  have hmax := wo.max
  simp only [deref_some, add_mk, Nat.zero_add, Nat.add_zero]
  refine ⟨q, _, qc, s.cell0 (i := 2) rfl, fun i h' => ∃ k : Nat, i = k ∧ k ≤ D'.queue.length ∧ St h0 h' (pts b 0 false [.slice p D'.lasts.length c, .slice p2 D'.lasts.length c2, .slice q D'.queue.length qc, .int .i64 D'.fuse, .bool D'.down] ::
    own 128 p D'.lasts.length c (pagesC (applyQ D'.lasts (D'.queue.take k))) :: own 128 p2 D'.lasts.length c2 (pagesC D'.seen) :: own 129 q D'.queue.length qc (queueC D'.queue) :: F), fun i _ => (D'.queue.length - i).toNat,
    ⟨0, rfl, Nat.zero_le _, by simpa [applyQ] using s⟩, ?_⟩
  clear s hs2
  rintro i h3 ⟨k, rfl, hk, s⟩
  rw [br_decide]
  refine ⟨fun hlt => ⟨by omega, hlt, ?_⟩, fun hge => ?_⟩
  · have hk1 : k < D'.queue.length := by omega
    have hw := wo.waits _ (List.getElem_mem hk1)
    have hqr := queue_rows fun x hx => (wo.waits x hx).2
    obtain ⟨b2, o2, rfl, hrow, _⟩ := s.up3.rowGet (rows := D'.queue.map qRow) hqr (by omega) (i := k) (by simpa using hk1)
    rw [queue_get hk1] at hrow
    simp only [deref_some, add_mk, Int.toNat_natCast]
    refine ⟨_, hrow, s.newBlk fun b16 h17 _ s _ => ?_⟩
    have hql : (qRow D'.queue[k]).length = 129 := by rw [qRow_length]; omega
    refine s.storeAll (by simp) (by simpa using hql) (one_list (qRow_one _)) fun h18 s => ?_
    refine ⟨p, _, c, s.up1.cell0 (i := 0) rfl, (D'.queue[k].1 : Int), s.cell0 (i := 0) rfl, _, s.rowAt (i := 1) (n := 128) (by simp; omega), by omega, by omega, ?_⟩
    have hal : (applyQ D'.lasts (D'.queue.take k)).length = n := by rw [applyQ_length]; exact hlen
    have hap := applyQ_pages (Q := D'.queue.take k) wo.pages fun x hx => (wo.waits x (List.mem_of_mem_take hx)).2
    obtain ⟨b3, o3, rfl, _⟩ := s.up2.rowGet (rows := (applyQ D'.lasts (D'.queue.take k)).map bcs) (pages_rows hap) (by omega) (i := D'.queue[k].1) (by simp; omega)
    have ex : (List.take 128 (List.drop 1 (qRow D'.queue[k]))) = bcs D'.queue[k].2 := by
      simp only [qRow, List.drop_succ_cons, List.drop_zero]
      exact List.take_of_length_le (by rw [bcs_length]; omega)
    simp only [deref_some, add_mk, Int.toNat_natCast]
    rw [ex]
    refine s.up2.ownStore (by simp [bcs_length, hw.2]) (by omega) (one_list (one_bcs _)) fun h26 s => ?_
    rw [wrap_i64 (by omega) (by omega)]
    refine ⟨⟨k + 1, by omega, by omega, ?_⟩, by omega⟩
    have el : lay (pagesC (applyQ D'.lasts (D'.queue.take k))) (D'.queue[k].1 * 128) (bcs D'.queue[k].2).toArray.toList = pagesC (applyQ D'.lasts (D'.queue.take (k + 1))) := by
      rw [applyQ_take hk1]
      exact pages_set (by omega) hap hw.2
    rw [el] at s
    exact s.up1.drop.up1
  · have hkl : k = D'.queue.length := by omega
    subst hkl
    rw [List.take_length] at s
    refine s.store0 (by simp) rfl fun h28 s => ⟨by trivial, ?_⟩
    have ll : D'.seen.length = D'.lasts.length := by rw [wo.seenLen, wo.len]
    refine Dv.cl (D := { D' with lasts := D'.seen, queue := [] }) (p := p) (c := c) (p2 := p2) (c2 := c2) (q := none) (qc := 0) ?_
    simp only [ll]
    have s := (s.up3.drop.nil 129).dn3
    exact s
theorem restL_snoc : ∀ (Q : List (Nat × List UInt8)) (L : List (List UInt8)) (w : Nat × List UInt8) (list : List Int), restL L (Q ++ [w]) list = (restL L Q list).set w.1 (mixed ((restL L Q list).getD w.1 []) w.2 (list.getD Q.length 0))
  | [], L, w, [] => by simp [restL]
  | [], L, w, t :: ts => by simp [restL]
  | x :: Q, L, w, [] => by
    rw [List.cons_append, restL, restL_snoc Q, restL]; simp
  | x :: Q, L, w, t :: ts => by
    rw [List.cons_append, restL, restL_snoc Q, restL]; simp
theorem St.ownCopyP {sz : Nat} {p q : Option Addr} {l c : Nat} {vs news : List Value} {K : Int → Heap → Prop} (hs : St h0 h (own sz p l c vs :: F)) (hsrc : src h q (l * sz) = some news.toArray) (hn : news.length = l * sz) (ho : ∀ v ∈ news, v.oneCell' = true)
    (hk : ∀ h', St h0 h' (own sz p l c news :: F) → K l h') : copyP sz p l q l h K := by
  have hlen := hs.len
  have hcase : (p = none ∧ c = 0) ∨ ∃ b o, p = some (Addr.mk b o none) := hs.pure fun m ⟨_, _, _, d⟩ => d.imp id fun ⟨b, o, _, e, _⟩ => ⟨b, o, e⟩
  have hmin : Nat.min l l = l := Nat.min_self l
  rcases hcase with ⟨rfl, rfl⟩ | ⟨b, o, rfl⟩
  · have hl : l = 0 := by omega
    subst hl
    have hv : news = [] := List.length_eq_zero_iff.1 (by omega)
    have hw : vs = [] := List.length_eq_zero_iff.1 (by omega)
    subst hv; subst hw
    refine ⟨#[], by simpa using src_zero h q, by simp [one], fun a ha => (by cases ha), fun h' e => ?_⟩
    simp only at e
    subst e
    exact hk _ hs
  · have := hs.ownCopy (x := 0) (n := l) (m := l) (sz' := sz) (q := q) (news := news) (K := K) (k := l * sz) (by rw [hmin]) (by omega) hsrc hn ho (fun h' s => by
      rw [lay_all (by omega)] at s
      rw [hmin]
      exact hk _ s)
    exact this
theorem pages_one (L : List (List UInt8)) : ∀ v ∈ pagesC L, v.oneCell' = true := fun v hv => by
  obtain ⟨r, hr, hv⟩ := List.mem_flatten.1 hv
  obtain ⟨x, _, rfl⟩ := List.mem_map.1 hr
  exact one_bcs _ v hv
theorem pages_length {L : List (List UInt8)} (h : ∀ p ∈ L, p.length = 128) : (pagesC L).length = L.length * 128 := by
  unfold pagesC
  rw [flatten_length (pages_rows h), List.length_map]
theorem restart_ok {list : List Int} {lp : Option Addr} {ll lc : Nat} (hs : St h0 h (Dv b D :: rdo 1 lp ll (list.map (Value.int .i64)) :: F)) (w : D.Wf n) (hq : D.queue.length ≤ 1000000) :
    CallsH Try.prog n_device_Device_Restart #[ptr b, .slice lp ll lc] h fun v h' => v = unit ∧ St h0 h' (Dv b (restartD D list) :: rdo 1 lp ll (list.map (Value.int .i64)) :: F) := by
  refine C_device_Device_Restart (some (Addr.mk b 0 none)) lp ll lc ?_
  unfold F_device_Device_Restart
  have hll : list.length = ll := by have := (rd_rdo hs.up1.at).1; simpa using this
  obtain ⟨p, c, p2, c2, q, qc, s⟩ := Dv.op hs
  have hlen := w.len
  have hmax := w.max
  simp only [Option.isNone_some, br_false, deref_some, add_mk, Nat.zero_add, Nat.add_zero]
  refine ⟨q, _, qc, s.cell0 (i := 2) rfl, fun i h' => ∃ k : Nat, i = k ∧ k ≤ D.queue.length ∧ St h0 h' (pts b 0 false [.slice p D.lasts.length c, .slice p2 D.lasts.length c2, .slice q D.queue.length qc, .int .i64 D.fuse, .bool D.down] ::
    own 128 p D.lasts.length c (pagesC (restL D.lasts (D.queue.take k) list)) :: own 128 p2 D.lasts.length c2 (pagesC D.seen) :: own 129 q D.queue.length qc (queueC D.queue) :: rdo 1 lp ll (list.map (Value.int .i64)) :: F), fun i _ => (D.queue.length - i).toNat,
    ⟨0, rfl, Nat.zero_le _, by simpa [restL] using s⟩, ?_⟩
  clear s hs
  rintro i h3 ⟨k, rfl, hk, s⟩
  rw [br_decide]
  refine ⟨fun hlt => ⟨by omega, hlt, ?_⟩, fun hge => ?_⟩
  · have hk1 : k < D.queue.length := by omega
    have hw := w.waits _ (List.getElem_mem hk1)
    have hqr := queue_rows fun x hx => (w.waits x hx).2
    obtain ⟨b2, o2, rfl, hrow, _⟩ := s.up3.rowGet (rows := D.queue.map qRow) hqr (by omega) (i := k) (by simpa using hk1)
    rw [queue_get hk1] at hrow
    simp only [deref_some, add_mk, Int.toNat_natCast]
    refine ⟨_, hrow, s.newBlk fun b16 h17 _ s _ => ?_⟩
    have hql : (qRow D.queue[k]).length = 129 := by rw [qRow_length]; omega
    refine s.storeAll (by simp) (by simpa using hql) (one_list (qRow_one _)) fun h18 s => ?_
    obtain ⟨hal, hap⟩ := restL_wf (n := n) (D.queue.take k) D.lasts list hlen w.pages fun x hx => w.waits x (List.mem_of_mem_take hx)
    obtain ⟨b3, o3, rfl, _⟩ := s.up2.rowGet (rows := (restL D.lasts (D.queue.take k) list).map bcs) (pages_rows hap) (by omega) (i := D.queue[k].1) (by simp; omega)
    have ex : ∀ t, t ≤ 128 → (List.take t (List.drop 1 (qRow D.queue[k]))) = bcs (D.queue[k].2.take t) := fun t ht => by
      simp only [qRow, List.drop_succ_cons, List.drop_zero, bcs_take]
    have hp0 : ∀ q : Option Addr, (if ((128 : Nat) : Int).toNat = 0 then q else q.map fun x => x.add 0) = q := fun q => by cases q <;> simp [add_zero]
    have hal' : D.queue[k].1 < (restL D.lasts (D.queue.take k) list).length := by omega
    have key : ∀ (t : Nat) (z : Int), t ≤ 128 → t = (min (max (list.getD k 0) 0) 128).toNat → z = t → ∀ (K : Heap → Prop), (∀ h', St h0 h' (pts b 0 false [.slice (some (Addr.mk b3 o3 none)) D.lasts.length c, .slice p2 D.lasts.length c2, .slice (some (Addr.mk b2 o2 none)) D.queue.length qc, .int .i64 D.fuse, .bool D.down] ::
        own 128 (some (Addr.mk b3 o3 none)) D.lasts.length c (pagesC (restL D.lasts (D.queue.take (k + 1)) list)) :: own 128 p2 D.lasts.length c2 (pagesC D.seen) :: own 129 (some (Addr.mk b2 o2 none)) D.queue.length qc (queueC D.queue) :: rdo 1 lp ll (list.map (Value.int .i64)) :: F) → K h') →
        sliceP 1 (some (Addr.mk b3 (o3 + D.queue[k].1 * 128) none)) 0 z ((128 : Nat) : Int) 128 fun p21 l22 c23 => sliceP 1 (some (Addr.mk b16 1 none)) 0 z ((128 : Nat) : Int) 128 fun p24 l25 c26 => copyP 1 p21 l22 p24 l25 h18 fun n27 h28 => K h28 := by
      intro t z ht he hz K hK
      subst hz
      refine ⟨by omega, by omega, by omega, by omega, ?_⟩
      refine ⟨by omega, by omega, by omega, by omega, ?_⟩
      simp only [Int.toNat_zero, Nat.zero_mul, Nat.sub_zero, hp0, Int.toNat_natCast]
      refine s.up2.ownCopy (k := t) (news := bcs (D.queue[k].2.take t)) (by rw [Nat.mul_one]; exact Nat.min_self t) (by omega) ?_ (by rw [bcs_length, List.length_take]; omega) (one_bcs _) fun h28 s => hK _ ?_
      · have := s.rowAt (i := 1) (n := t) (by simp; omega)
        rw [ex t ht] at this
        exact this
      · have el : lay (pagesC (restL D.lasts (D.queue.take k) list)) (D.queue[k].1 * 128) (bcs (D.queue[k].2.take t)) = pagesC (restL D.lasts (D.queue.take (k + 1)) list) := by
          rw [pages_lay hal' hap (by rw [List.length_take]; omega), List.take_succ_eq_append_getElem hk1, restL_snoc, List.length_take, Nat.min_eq_left (by omega), List.length_take, Nat.min_eq_left (by omega)]
          unfold mixed
          rw [← he]
        rw [el] at s
        exact s.up1.drop.up1
    rw [br_decide]
    refine ⟨fun hin => ⟨by omega, hin, ?_⟩, fun hout => ?_⟩
    · have hk2 : k < list.length := by omega
      obtain ⟨a, rfl, hc⟩ := (rd_rdo s.up5.at).cell (i := k) (by simpa using hk2)
      simp only [deref_some, Nat.mul_one]
      refine ⟨list[k], by simpa using hc, _, _, c, s.up1.cell0 (i := 0) rfl, (D.queue[k].1 : Int), s.cell0 (i := 0) rfl, by omega, by omega, ?_⟩
      simp only [deref_some, add_mk, Int.toNat_natCast]
      refine key (min (max list[k] 0) 128).toNat _ (by omega) (by simp [List.getD_eq_getElem?_getD, hk2]) ?_ _ fun h' s' => ⟨⟨k + 1, by rw [wrap_i64 (by omega) (by omega)]; omega, by omega, s'⟩, by rw [wrap_i64 (by omega) (by omega)]; omega⟩
      unfold minI maxI
      split <;> split <;> omega
    · refine ⟨_, _, c, s.up1.cell0 (i := 0) rfl, (D.queue[k].1 : Int), s.cell0 (i := 0) rfl, by omega, by omega, ?_⟩
      simp only [deref_some, add_mk, Int.toNat_natCast]
      refine key 0 0 (by omega) ?_ rfl _ fun h' s' => ⟨⟨k + 1, by rw [wrap_i64 (by omega) (by omega)]; omega, by omega, s'⟩, by rw [wrap_i64 (by omega) (by omega)]; omega⟩
      rw [List.getD_eq_getElem?_getD, List.getElem?_eq_none (by omega)]
      rfl
  · have hkl : k = D.queue.length := by omega
    subst hkl
    rw [List.take_length] at s
    obtain ⟨hal, hap⟩ := restL_wf (n := n) D.queue D.lasts list hlen w.pages w.waits
    refine ⟨p2, _, c2, s.cell0 (i := 1) rfl, p, _, c, s.cell0 (i := 0) rfl, ?_⟩
    have hsrc := (rd_own s.up1.at).2
    refine St.ownCopyP s.up2 hsrc (by rw [pages_length hap]; omega) (pages_one _) fun h52 s => ?_
    refine s.up1.store0 (by simp) rfl fun h54 s => ?_
    refine s.store0 (by simp) rfl fun h56 s => ?_
    refine s.store0 (by simp) rfl fun h58 s => ⟨by trivial, ?_⟩
    have lr : (restartD D list).lasts.length = D.lasts.length := by show (restL _ _ _).length = _; omega
    refine Dv.cl (p := p) (c := c) (p2 := p2) (c2 := c2) (q := none) (qc := 0) ?_
    rw [lr]
    have s := (s.up3.drop.nil 129).dn3.up2.up1
    exact s
theorem pagesC_new (n : Nat) : List.replicate (n * 128) (Value.int .u8 0) = pagesC (List.replicate n (List.replicate 128 0)) := by
  unfold pagesC
  rw [List.map_replicate, bcs_replicate]
  induction n with
  | zero => simp
  | succ n ih => rw [List.replicate_succ, List.flatten_cons, ← ih, Nat.succ_mul, Nat.add_comm, ← List.replicate_append_replicate]; rfl
theorem new_ok (h : Heap) (n : Nat) (hn : n ≤ 4096) : CallsH Try.prog n_device_New #[.int .i64 n] h fun v h' => ∃ b, v = .tuple #[ptr b, .int .i64 0] ∧ New h h' [Dv b (newD n)] := by
  refine C_device_New n ?_
  unfold F_device_New
  rw [br_decide]
  refine ⟨fun hx => by omega, fun _ => ?_⟩
  rw [br_decide]
  refine ⟨fun hx => by omega, fun _ => ?_⟩
  have hz : (List.replicate 128 (Value.int .u8 0)).toArray = Array.replicate 128 (Value.int .u8 0) := List.toArray_replicate _ _
  have hl : (newD n).lasts.length = n := by simp [newD]
  have hc : pagesC (newD n).lasts = List.replicate (n * 128) (Value.int .u8 0) := (pagesC_new n).symm
  have hc' : pagesC (newD n).seen = List.replicate (n * 128) (Value.int .u8 0) := (pagesC_new n).symm
  constructor
  · refine (St.start h).make hz (by omega) (Nat.le_refl _) (by unfold maxLen; omega) (by omega) fun b0 h1 s => ?_
    refine s.make hz (by omega) (Nat.le_refl _) (by unfold maxLen; omega) (by omega) fun b2 h3 s => ?_
    refine s.newBlk fun b4 h5 _ s _ => ⟨b4, rfl, St.new (Dv.cl (p := some (Addr.mk b0 0 none)) (c := n) (p2 := some (Addr.mk b2 0 none)) (c2 := n) (q := none) (qc := 0) ?_) ⟨owns_Dv, trivial⟩⟩
    rw [hl, hc, hc']
    simp only [Int.toNat_natCast] at s
    exact (s.nil 129).dn3.up2.up1
  · refine (St.start h).make hz (by omega) (Nat.le_refl _) (by unfold maxLen; omega) (by omega) fun b0 h1 s => ?_
    refine s.make hz (by omega) (Nat.le_refl _) (by unfold maxLen; omega) (by omega) fun b2 h3 s => ?_
    refine s.newBlk fun b4 h5 _ s _ => ⟨b4, rfl, St.new (Dv.cl (p := some (Addr.mk b2 0 none)) (c := n) (p2 := some (Addr.mk b0 0 none)) (c2 := n) (q := none) (qc := 0) ?_) ⟨owns_Dv, trivial⟩⟩
    rw [hl, hc, hc']
    simp only [Int.toNat_natCast] at s
    exact (s.nil 129).dn3
theorem new_bad (h : Heap) {n : Int} (hn : ¬(0 ≤ n ∧ n ≤ 4096)) : CallsH Try.prog n_device_New #[.int .i64 n] h fun v h' => v = .tuple #[.pointer none, .int .i64 1] ∧ h' = h := by
  refine C_device_New n ?_
  unfold F_device_New
  rw [br_decide]
  refine ⟨fun hx => ⟨rfl, rfl⟩, fun hx => ?_⟩
  rw [br_decide]
  exact ⟨fun hx => ⟨rfl, rfl⟩, fun hx => by omega⟩
/- ### No device -/
theorem down_nil (h : Heap) : CallsH Try.prog n_device_Device_Down #[.pointer none] h fun v h' => v = .bool true ∧ h' = h := C_device_Device_Down none ⟨rfl, rfl⟩
theorem reach_nil (h : Heap) (i : Int) : CallsH Try.prog n_device_Device_reach #[.pointer none, .int .i64 i] h fun v h' => v = .int .i64 6 ∧ h' = h :=
  C_device_Device_reach none i ((down_nil h).mono fun v h1 ⟨hv, hh⟩ => by subst hh; exact ⟨Ext.refl _, _, hv, br_yes rfl ⟨rfl, rfl⟩⟩)
theorem read_nil (h : Heap) (i : Int) : CallsH Try.prog n_device_Device_Read #[.pointer none, .int .i64 i] h fun v h' => v = .tuple #[.slice none 0 0, .int .i64 6] ∧ h' = h :=
  C_device_Device_Read none i ((reach_nil h i).mono fun v h1 ⟨hv, hh⟩ => by subst hh; exact ⟨Ext.refl _, _, hv, br_yes rfl ⟨rfl, rfl⟩⟩)
theorem write_nil (h : Heap) (i : Int) (p : Option Addr) (l c : Nat) : CallsH Try.prog n_device_Device_Write #[.pointer none, .int .i64 i, .slice p l c] h fun v h' => v = .int .i64 6 ∧ h' = h :=
  C_device_Device_Write none i p l c ((reach_nil h i).mono fun v h1 ⟨hv, hh⟩ => by subst hh; exact ⟨Ext.refl _, _, hv, br_yes rfl ⟨rfl, rfl⟩⟩)
theorem flush_nil (h : Heap) : CallsH Try.prog n_device_Device_Flush #[.pointer none] h fun v h' => v = .int .i64 6 ∧ h' = h :=
  C_device_Device_Flush none ((down_nil h).mono fun v h1 ⟨hv, hh⟩ => by subst hh; exact ⟨Ext.refl _, _, hv, br_yes rfl ⟨rfl, rfl⟩⟩)
theorem setFuse_nil (h : Heap) (k : Int) : CallsH Try.prog n_device_Device_SetFuse #[.pointer none, .int .i64 k] h fun v h' => v = unit ∧ h' = h := C_device_Device_SetFuse none k (br_no rfl ⟨rfl, rfl⟩)
theorem restart_nil (h : Heap) (p : Option Addr) (l c : Nat) : CallsH Try.prog n_device_Device_Restart #[.pointer none, .slice p l c] h fun v h' => v = unit ∧ h' = h := C_device_Device_Restart none p l c (br_yes rfl ⟨rfl, rfl⟩)
end
end Go.Proofs.Ytkeggnfffnodmaa
