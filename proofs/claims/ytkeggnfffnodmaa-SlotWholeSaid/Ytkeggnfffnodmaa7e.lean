/- The reference of layer 7: the same device, kept otherwise. -/
import Derived.Test.Ytkeggnfffnodmaa7d
import Derived.Test.YtkeggnfffnodmaaSs
set_option linter.unusedVariables false
set_option maxRecDepth 100000
namespace Go.Proofs.Ytkeggnfffnodmaa
open Go Go.Vc Go.Proofs

theorem getD_set {L : List (List UInt8)} {i j : Nat} {x : List UInt8} (hi : i < L.length) : (L.set i x).getD j [] = if i = j then x else L.getD j [] := by
  rw [List.getD_eq_getElem?_getD, List.getElem?_set]
  split
  · rename_i h
    subst h
    simp [hi]
  · rw [← List.getD_eq_getElem?_getD]
/-- The last write to a page is what is read of it. -/
theorem seen_last {L : List (List UInt8)} {Q : List (Nat × List UInt8)} {i k : Nat} (hk : k < Q.length) (he : Q[k].1 = i) (hi : i < L.length) (hn : ∀ j (hj : j < Q.length), k < j → Q[j].1 ≠ i) :
    ∀ m, m ≤ Q.length → k < m → (applyQ L (Q.take m)).getD i [] = Q[k].2
  | 0, _, h => by omega
  | m + 1, hm, h => by
    rw [applyQ_take (by omega)]
    by_cases hkm : k = m
    · subst hkm
      rw [he, getD_set (by rw [applyQ_length]; exact hi), if_pos rfl]
    · have hne := hn m (by omega) (by omega)
      by_cases hl : Q[m].1 < (applyQ L (Q.take m)).length
      · rw [getD_set hl, if_neg hne]
        exact seen_last hk he hi hn m (by omega) (by omega)
      · rw [List.set_eq_of_length_le (by omega)]
        exact seen_last hk he hi hn m (by omega) (by omega)
theorem seen_none {L : List (List UInt8)} {Q : List (Nat × List UInt8)} {i : Nat} (hn : ∀ j (hj : j < Q.length), Q[j].1 ≠ i) : ∀ m, m ≤ Q.length → (applyQ L (Q.take m)).getD i [] = L.getD i []
  | 0, _ => by simp [applyQ]
  | m + 1, hm => by
    rw [applyQ_take (by omega)]
    by_cases hl : Q[m].1 < (applyQ L (Q.take m)).length
    · rw [getD_set hl, if_neg (hn m (by omega))]
      exact seen_none hn m (by omega)
    · rw [List.set_eq_of_length_le (by omega)]
      exact seen_none hn m (by omega)

abbrev Pg := Sl × List UInt8
def rRow (w : Nat × Pg) : List Value := [.int .i64 (w.1 : Int), w.2.1.v]
def rQ (QP : List (Nat × Pg)) : List (Nat × List UInt8) := QP.map fun w => (w.1, w.2.2)
def rL (LP : List Pg) : List (List UInt8) := LP.map (·.2)
def rC (b : Nat) (LP : List Pg) (QP : List (Nat × Pg)) (f : Int) (dn : Bool) (p : Option Addr) (c : Nat) (q : Option Addr) (qc : Nat) : List HP :=
  [pts b 0 false [.slice p LP.length c, .slice q QP.length qc, .int .i64 f, .bool dn], own 1 p LP.length c (LP.map (·.1.v)), own 2 q QP.length qc (QP.map rRow).flatten, rds (LP ++ QP.map (·.2))]
def Rv (b : Nat) (D : Dev) : HP := fun m => ∃ LP QP p c q qc, D.lasts = rL LP ∧ D.queue = rQ QP ∧ star (rC b LP QP D.fuse D.down p c q qc) m
section
variable {h0 h : Heap} {F : List HP} {b n : Nat} {D : Dev}
theorem Rv.op (hs : St h0 h (Rv b D :: F)) : ∃ LP QP p c q qc, D.lasts = rL LP ∧ D.queue = rQ QP ∧ St h0 h (rC b LP QP D.fuse D.down p c q qc ++ F) := by
  obtain ⟨e, m, ⟨m1, m2, a, b', c', ⟨LP, QP, p, c, q, qc, e1, e2, x⟩, s⟩, t, u⟩ := hs
  exact ⟨LP, QP, p, c, q, qc, e1, e2, e, m, star_flat ⟨m1, m2, a, b', c', x, s⟩, t, u⟩
theorem Rv.cl {LP : List Pg} {QP : List (Nat × Pg)} {p q : Option Addr} {c qc : Nat} (e1 : D.lasts = rL LP) (e2 : D.queue = rQ QP) (hs : St h0 h (rC b LP QP D.fuse D.down p c q qc ++ F)) : St h0 h (Rv b D :: F) :=
  (St.pack hs).impl fun m x => ⟨LP, QP, p, c, q, qc, e1, e2, x⟩
theorem Rv.at (a : At h (Rv b D)) : ∃ LP QP p c q qc, D.lasts = rL LP ∧ D.queue = rQ QP ∧ At h (pts b 0 false [.slice p LP.length c, .slice q QP.length qc, .int .i64 D.fuse, .bool D.down]) ∧ At h (own 1 p LP.length c (LP.map (·.1.v))) ∧
    At h (own 2 q QP.length qc (QP.map rRow).flatten) ∧ At h (rds (LP ++ QP.map (·.2))) := by
  obtain ⟨m, s, LP, QP, p, c, q, qc, x1, x2, m1, m2, a1, a2, _, q1, m3, m4, a3, a4, _, q2, m5, m6, a5, a6, _, q3, m7, m8, a7, a8, _, q4, _⟩ := a
  exact ⟨LP, QP, p, c, q, qc, x1, x2, ⟨m1, s.le a1, q1⟩, ⟨m3, s.le (a3.trans a2), q2⟩, ⟨m5, s.le (a5.trans (a4.trans a2)), q3⟩, ⟨m7, s.le (a7.trans (a6.trans (a4.trans a2))), q4⟩⟩
theorem rRow_len (QP : List (Nat × Pg)) : ∀ r ∈ QP.map rRow, r.length = 2 := fun r hr => by
  obtain ⟨w, _, rfl⟩ := List.mem_map.1 hr
  rfl
theorem rQ_get {QP : List (Nat × Pg)} {k : Nat} (hk : k < QP.length) (h' : k < (rQ QP).length) : (rQ QP)[k] = (QP[k].1, QP[k].2.2) := by simp [rQ]
theorem rQ_len (QP : List (Nat × Pg)) : (rQ QP).length = QP.length := by simp [rQ]
theorem rL_len (LP : List Pg) : (rL LP).length = LP.length := by simp [rL]
theorem queue_eq {QP : List (Nat × Pg)} (e : D.queue = rQ QP) {j : Nat} (hj : j < D.queue.length) (hj' : j < QP.length) : D.queue[j] = (QP[j].1, QP[j].2.2) := by
  simp only [e]
  exact rQ_get hj' _

theorem roperation_ok (hs : St h0 h (Rv b D :: F)) (w : D.Wf n) (hd : D.down = false) :
    CallsH Try.prog n_ref07_Device_operation #[ptr b] h fun v h' => v = .bool (!(opD D).down) ∧ St h0 h' (Rv b (opD D) :: F) := by
  refine C_ref07_Device_operation (some (Addr.mk b 0 none)) ?_
  unfold F_ref07_Device_operation
  obtain ⟨LP, QP, p, c, q, qc, e1, e2, s⟩ := Rv.op hs
  simp only [rC, List.cons_append, List.nil_append] at s
  simp only [deref_some, add_mk, Nat.zero_add]
  have hf1 := w.f1
  refine ⟨_, s.cell0 (i := 2) rfl, ?_⟩
  rw [br_beq]
  refine ⟨fun h0 => s.store0 (by simp) rfl fun h3 s => ?_, fun hn0 => ⟨_, s.cell0 (i := 2) rfl, ?_⟩⟩
  · rw [opD_zero h0]
    exact ⟨rfl, Rv.cl (D := { D with down := true }) e1 e2 s⟩
  · rw [br_decide]
    refine ⟨fun hpos => ⟨_, s.cell0 (i := 2) rfl, s.store0 (by simp) rfl fun h11 s => ?_⟩, fun hneg => ?_⟩
    · rw [wrap_i64 (by omega) (by omega)] at s
      rw [opD_pos (by omega)]
      exact ⟨by simp [hd], Rv.cl (D := { D with fuse := D.fuse - 1 }) e1 e2 s⟩
    · have hf0 := w.f0
      rw [opD_neg (by omega)]
      exact ⟨by simp [hd], hs⟩
theorem rread_ok (a : At h (Rv b D)) (w : D.Wf n) (hq : D.queue.length ≤ 1000000) (i : Int) :
    CallsH Try.prog n_ref07_Device_Read #[ptr b, .int .i64 i] h fun v h' => (∃ p l c, v = .tuple #[.slice p l c, .int .i64 (readD D i).2] ∧ Bs h p l (readD D i).1 ∧ l ≤ c) ∧ h' = h := by
  refine C_ref07_Device_Read (some (Addr.mk b 0 none)) i ?_
  unfold F_ref07_Device_Read
  obtain ⟨LP, QP, p, c, q, qc, e1, e2, a1, a2, a3, a4⟩ := Rv.at a
  have hlen := w.len
  rw [e1, rL_len] at hlen
  rw [e2, rQ_len] at hq
  have hnil : Bs h none 0 [] := ⟨rfl, Rd.nil _ _⟩
  simp only [deref_some, add_mk, Nat.zero_add, Nat.add_zero]
  refine ⟨_, pts_cell a1 (i := 3) rfl, ?_⟩
  cases hd : D.down
  rotate_left
  · refine br_yes rfl ⟨⟨none, 0, 0, ?_⟩, by trivial⟩
    rw [readD, if_neg (by rw [reach_down hd]; omega), reach_down hd]
    exact ⟨rfl, hnil, Nat.le_refl _⟩
  refine br_no rfl ?_
  rw [br_decide]
  refine ⟨fun hi => ⟨⟨none, 0, 0, ?_⟩, by trivial⟩, fun hi => ?_⟩
  · have := reach_out (i := i) w hd (.inl hi)
    rw [readD, if_neg (by rw [this]; omega), this]
    exact ⟨rfl, hnil, Nat.le_refl _⟩
  refine ⟨p, _, c, pts_cell a1 (i := 0) rfl, ?_⟩
  rw [br_decide]
  refine ⟨fun hi => ⟨⟨none, 0, 0, ?_⟩, by trivial⟩, fun hi2 => ?_⟩
  · have := reach_out (i := i) w hd (.inr (by omega))
    rw [readD, if_neg (by rw [this]; omega), this]
    exact ⟨rfl, hnil, Nat.le_refl _⟩
  obtain ⟨i, rfl⟩ : ∃ k : Nat, i = k := ⟨i.toNat, by omega⟩
  have hin : i < n := by omega
  have hrd : readD D i = (D.seen.getD i [], 0) := by rw [readD, if_pos (reach_zero w hd hin), Int.toNat_natCast]
  rw [hrd]
  have hlt : i < D.lasts.length := by rw [w.len]; exact hin
  refine ⟨q, _, qc, pts_cell a1 (i := 1) rfl, fun x h' => h' = h ∧ ∃ k : Nat, x = (k : Int) - 1 ∧ k ≤ QP.length ∧ ∀ j (hj : j < QP.length), k ≤ j → QP[j].1 ≠ i, fun x _ => (x + 1).toNat, ⟨rfl, QP.length, by rw [wrap_i64 (by omega) (by omega)], Nat.le_refl _, fun j hj hk => by omega⟩, ?_⟩
  rintro x h13 ⟨rfl, k, rfl, hk, hno⟩
  rw [br_decide]
  refine ⟨fun hge => ?_, fun hlt0 => ?_⟩
  · obtain ⟨k, rfl⟩ : ∃ j, k = j + 1 := ⟨k - 1, by omega⟩
    have ek : ((k + 1 : Nat) : Int) - 1 = (k : Int) := by omega
    rw [ek]
    obtain ⟨b2, o2, rfl, hc⟩ := rows_get (i := k) (rd_own a3) (by simp) (rRow_len QP) (by omega) (by omega)
    have c0 := hc 0 (by omega) (by simpa using (by omega)) (by simp [rRow])
    have c1 := hc 1 (by omega) (by simpa using (by omega)) (by simp [rRow])
    simp only [List.getElem_map, rRow, List.getElem_cons_zero, List.getElem_cons_succ] at c0 c1
    refine ⟨_, _, qc, pts_cell a1 (i := 1) rfl, by omega, by omega, ?_⟩
    simp only [deref_some, add_mk, Int.toNat_natCast]
    refine ⟨_, c0, ?_⟩
    rw [br_beq]
    refine ⟨fun he => ⟨_, _, qc, pts_cell a1 (i := 1) rfl, by omega, by omega, ?_⟩, fun hne => ⟨⟨by trivial, k, by rw [wrap_i64 (by omega) (by omega)], by omega, fun j hj hkj => ?_⟩, by rw [wrap_i64 (by omega) (by omega)]; show ((k : Int) - 1 + 1).toNat < ((k : Int) + 1).toNat; omega⟩⟩
    · simp only [deref_some, add_mk]
      refine ⟨_, _, _, c1, ⟨_, _, _, rfl, ?_⟩, by trivial⟩
      have hkq : k < D.queue.length := by rw [e2, rQ_len]; omega
      have hg := queue_eq e2 hkq (by omega)
      have := seen_last (L := D.lasts) (Q := D.queue) (i := i) hkq (by rw [hg]; show QP[k].1 = i; omega) hlt (fun j hj hkj => by
        have hj' : j < QP.length := by rw [e2, rQ_len] at hj; exact hj
        rw [queue_eq e2 hj hj']
        exact hno j hj' (by omega)) D.queue.length (Nat.le_refl _) hkq
      rw [List.take_length] at this
      rw [Dev.seen, this, hg]
      have hmem := List.mem_append_right LP (List.mem_map.2 ⟨QP[k], List.getElem_mem (by omega), rfl⟩ : QP[k].2 ∈ QP.map (·.2))
      exact ⟨rds_get a4 hmem, rds_cap a4 hmem⟩
    · by_cases hjk : j = k
      · subst hjk; omega
      · exact hno j hj (by omega)
  · have hk0 : k = 0 := by omega
    subst hk0
    have := seen_none (L := D.lasts) (Q := D.queue) (i := i) (fun j hj => by
      have hj' : j < QP.length := by rw [e2, rQ_len] at hj; exact hj
      rw [queue_eq e2 hj hj']
      exact hno j hj' (Nat.zero_le _)) D.queue.length (Nat.le_refl _)
    rw [List.take_length] at this
    obtain ⟨a, rfl, hc⟩ := (rd_own a2).cell (i := i) (by simp; omega)
    rw [List.getElem_map] at hc
    refine ⟨_, _, c, pts_cell a1 (i := 0) rfl, by omega, by omega, ?_⟩
    simp only [deref_some, Int.toNat_natCast, Nat.mul_one]
    refine ⟨_, _, _, hc, ⟨_, _, _, rfl, ?_⟩, by trivial⟩
    have hil : i < LP.length := by omega
    rw [Dev.seen, this, e1, List.getD_eq_getElem?_getD, List.getElem?_eq_getElem (by rw [rL_len]; exact hil)]
    have := rds_get a4 (e := LP[i]) (List.mem_append_left _ (List.getElem_mem _))
    exact ⟨by simpa [rL] using this, rds_cap a4 (e := LP[i]) (List.mem_append_left _ (List.getElem_mem _))⟩
theorem rwrite_ok {xs : List UInt8} {p : Option Addr} {l c : Nat} (hs : St h0 h (Rv b D :: rdo 1 p l (bcs xs) :: F)) (w : D.Wf n) (i : Int) (hq : D.queue.length ≤ 1000000) :
    CallsH Try.prog n_ref07_Device_Write #[ptr b, .int .i64 i, .slice p l c] h fun v h' => v = .int .i64 (writeD D i xs).1 ∧ St h0 h' (Rv b (writeD D i xs).2 :: rdo 1 p l (bcs xs) :: F) := by
  refine C_ref07_Device_Write (some (Addr.mk b 0 none)) i p l c ?_
  unfold F_ref07_Device_Write
  have hxl := (bs_rdo hs.up1.at).1
  obtain ⟨LP, QP, p', c', q, qc, e1, e2, s⟩ := Rv.op hs
  simp only [rC, List.cons_append, List.nil_append] at s
  have hlen := w.len
  rw [e1, rL_len] at hlen
  simp only [deref_some, add_mk, Nat.zero_add, Nat.add_zero]
  refine ⟨_, s.cell0 (i := 3) rfl, ?_⟩
  cases hd : D.down
  rotate_left
  · have e : writeD D i xs = (6, D) := by rw [writeD, if_pos (by rw [reach_down hd]; omega), reach_down hd]
    rw [e]
    exact br_yes rfl ⟨rfl, hs⟩
  refine br_no rfl ?_
  have out : (i < 0 ∨ n ≤ i) → writeD D i xs = (4, D) := fun hi => by
    have := reach_out w hd hi
    rw [writeD, if_pos (by rw [this]; omega), this]
  rw [br_decide]
  refine ⟨fun hi => by rw [out (.inl hi)]; exact ⟨rfl, hs⟩, fun hi => ⟨p', _, c', s.cell0 (i := 0) rfl, ?_⟩⟩
  rw [br_decide]
  refine ⟨fun hi => by rw [out (.inr (by omega))]; exact ⟨rfl, hs⟩, fun hi2 => ?_⟩
  obtain ⟨i, rfl⟩ : ∃ k : Nat, i = k := ⟨i.toNat, by omega⟩
  have hin : i < n := by omega
  rw [br_bne]
  refine ⟨fun hne => by rw [writeD_one w hd hin (by omega)]; exact ⟨rfl, hs⟩, fun hl => ?_⟩
  have hx : xs.length = 128 := by omega
  refine (roperation_ok hs w hd).mono fun v h2 ⟨hv, hs2⟩ => ⟨_, hv, ?_⟩
  clear hs s
  rw [Bool.not_not]
  cases hdo : (opD D).down
  rotate_left
  · have e : writeD D i xs = (6, opD D) := by rw [writeD, if_neg (by simpa using reach_zero w hd hin), if_neg (by omega), if_pos hdo]
    rw [e]
    exact br_yes rfl ⟨rfl, hs2⟩
  rw [writeD_zero w hd hin hx hdo]
  refine br_no rfl ?_
  have wo := opD_wf w
  rw [← opD_queue D] at hq ⊢
  generalize opD D = D' at *
  clear e1 e2 out hlen
  obtain ⟨LP, QP, p', c', q, qc, e1, e2, s⟩ := Rv.op hs2
  simp only [rC, List.cons_append, List.nil_append] at s
  rw [e2, rQ_len] at hq
  have hbs := bs_rdo hs2.up1.at
  refine (s.nil 1).append hbs.2 (bvs_one xs) rfl (by omega) (by unfold maxLen; omega) fun p9 c9 h12 s _ => ?_
  refine ⟨q, _, qc, s.up1.cell0 (i := 1) rfl, rfl, s.newBlk fun b17 h18 _ s _ => ?_⟩
  refine St.append (xs := [Value.int .i64 (i : Int), .slice p9 (0 + l) c9]) s.up4 ⟨rfl, by simp only [src, Nat.one_mul]; exact s.row0 rfl⟩ (by intro v hv; simp at hv; rcases hv with h | h <;> subst h <;> rfl) rfl (by omega) (by unfold maxLen; omega) fun p19 c19 h22 s _ => ?_
  refine s.up3.store0 (by simp) rfl fun h24 s => ⟨by trivial, ?_⟩
  have s := (s.up3.rdsOwn).up5.rdsJoin
  refine Rv.cl (b := b) (D := { D' with queue := D'.queue ++ [(i, xs)] }) (LP := LP) (QP := QP ++ [(i, ((p9, 0 + l, c9), xs))]) (p := p') (c := c') (q := p19) (qc := c19) e1 (by show D'.queue ++ _ = _; rw [e2]; simp [rQ]) ?_
  simp only [rC, List.cons_append, List.nil_append, List.length_append, List.length_singleton, List.map_append, List.map_cons, List.map_nil, List.flatten_append, List.flatten_cons, List.flatten_nil, List.append_nil, ← List.append_assoc]
  exact s.up3.drop.dn3.up2.up1

theorem ownMk {sz l c : Nat} {a : Addr} {vs : List Value} (hs : St h0 h (own sz (some a) l c vs :: F)) : ∃ pb po, a = Addr.mk pb po none := hs.pure fun m ⟨_, _, _, d⟩ => by
  rcases d with ⟨e, _⟩ | ⟨pb, po, _, e, _⟩
  · cases e
  · cases e; exact ⟨pb, po, rfl⟩
theorem rL_set (LP : List Pg) (i : Nat) (x : Pg) : rL (LP.set i x) = (rL LP).set i x.2 := by simp [rL, List.map_set]
theorem rv_set (LP : List Pg) (i : Nat) (x : Pg) : (LP.map (·.1.v)).set i x.1.v = (LP.set i x).map (·.1.v) := by simp [List.map_set]
theorem rflush_ok (hs : St h0 h (Rv b D :: F)) (w : D.Wf n) (hq : D.queue.length ≤ 1000000) :
    CallsH Try.prog n_ref07_Device_Flush #[ptr b] h fun v h' => v = .int .i64 (flushD D).1 ∧ St h0 h' (Rv b (flushD D).2 :: F) := by
  refine C_ref07_Device_Flush (some (Addr.mk b 0 none)) ?_
  unfold F_ref07_Device_Flush
  obtain ⟨LP, QP, p', c', q, qc, e1, e2, s⟩ := Rv.op hs
  simp only [rC, List.cons_append, List.nil_append] at s
  simp only [deref_some, add_mk, Nat.zero_add, Nat.add_zero]
  refine ⟨_, s.cell0 (i := 3) rfl, ?_⟩
  cases hd : D.down
  rotate_left
  · have e : flushD D = (6, D) := by rw [flushD, if_pos hd]
    rw [e]
    exact br_yes rfl ⟨rfl, hs⟩
  refine br_no rfl ((roperation_ok hs w hd).mono fun v h2 ⟨hv, hs2⟩ => ⟨_, hv, ?_⟩)
  clear hs s
  rw [Bool.not_not]
  cases hdo : (opD D).down
  rotate_left
  · have e : flushD D = (6, opD D) := by rw [flushD, if_neg (by simp [hd]), if_pos hdo]
    rw [e]
    exact br_yes rfl ⟨rfl, hs2⟩
  have e : flushD D = (0, { opD D with lasts := (opD D).seen, queue := [] }) := by rw [flushD_zero hd hdo]; simp only [Dev.seen, opD_lasts, opD_queue]
  rw [e]
  refine br_no rfl ?_
  have wo := opD_wf w
  rw [← opD_queue D] at hq
  generalize opD D = D' at *
  clear e1 e2
  obtain ⟨LP, QP, p, c, q, qc, e1, e2, s⟩ := Rv.op hs2
  have hlen := wo.len
  have hmax := wo.max
  rw [e1, rL_len] at hlen
  rw [e2, rQ_len] at hq
  refine ⟨fun i h' => ∃ (k : Nat) (LP' : List Pg), i = k ∧ k ≤ QP.length ∧ LP'.length = LP.length ∧ rL LP' = applyQ D'.lasts (D'.queue.take k) ∧ St h0 h' (rC b LP' QP D'.fuse D'.down p c q qc ++ F), fun i _ => (QP.length - i).toNat,
    ⟨0, LP, rfl, Nat.zero_le _, rfl, by simpa [applyQ] using e1.symm, s⟩, ?_⟩
  clear s hs2
  rintro i h3 ⟨k, LP', rfl, hk, hl', hap, s⟩
  simp only [rC, List.cons_append, List.nil_append] at s
  refine ⟨q, _, qc, s.cell0 (i := 1) rfl, ?_⟩
  rw [br_decide]
  refine ⟨fun hlt => ?_, fun hge => ?_⟩
  · have hk1 : k < QP.length := by omega
    have hkd : k < D'.queue.length := by rw [e2, rQ_len]; exact hk1
    have hqe := queue_eq e2 hkd hk1
    have hw := wo.waits _ (List.getElem_mem hkd)
    rw [hqe] at hw
    obtain ⟨b2, o2, rfl, _, hc⟩ := s.up2.rowGet (rRow_len QP) (by omega) (i := k) (by simpa using hk1)
    have c0 := hc 0 (.int .i64 (QP[k].1 : Int)) (by simp [rRow])
    have c1 := hc 1 QP[k].2.1.v (by simp [rRow])
    refine ⟨p, _, c, s.cell0 (i := 0) rfl, _, _, qc, s.cell0 (i := 1) rfl, by omega, by omega, ?_⟩
    simp only [deref_some, add_mk, Int.toNat_natCast]
    refine ⟨_, c0, _, _, qc, s.cell0 (i := 1) rfl, by omega, by omega, ?_⟩
    simp only [deref_some, add_mk]
    refine ⟨_, _, _, c1, by omega, by have := hw.1; simp only at this; omega, ?_⟩
    have hin : QP[k].1 < LP'.length := by have := hw.1; simp only at this; omega
    obtain ⟨a, rfl, _⟩ := (rd_own s.up1.at).cell (i := QP[k].1) (by simpa using hin)
    obtain ⟨pb, po, rfl⟩ := ownMk s.up1
    simp only [deref_some, add_mk, Nat.mul_one]
    refine s.up1.ownStore1 (v := QP[k].2.1.v) (by omega) rfl fun h32 s => ?_
    rw [rv_set] at s
    rw [wrap_i64 (by omega) (by omega)]
    refine ⟨⟨k + 1, LP'.set QP[k].1 QP[k].2, by omega, by omega, by simpa using hl', ?_, ?_⟩, by show ((QP.length : Int) - ((k : Int) + 1)).toNat < ((QP.length : Int) - (k : Int)).toNat; omega⟩
    · rw [rL_set, hap, applyQ_take hkd, hqe]
    · simp only [rC, List.cons_append, List.nil_append, List.length_set]
      have s := s.up3.rdsSub (T := LP'.set QP[k].1 QP[k].2 ++ QP.map (·.2)) (fun e he => by
        rcases List.mem_append.1 he with h | h
        · rcases List.mem_or_eq_of_mem_set h with h | h
          · exact List.mem_append_left _ h
          · rw [h]; exact List.mem_append_right _ (List.mem_map.2 ⟨QP[k], List.getElem_mem _, rfl⟩)
        · exact List.mem_append_right _ h)
      exact s.dn3.up1
  · have hkl : k = QP.length := by omega
    subst hkl
    have hdl : D'.queue.length = QP.length := by rw [e2, rQ_len]
    rw [← hdl, List.take_length] at hap
    refine s.store0 (by simp) rfl fun h34 s => ⟨by trivial, ?_⟩
    refine Rv.cl (b := b) (D := { D' with lasts := D'.seen, queue := [] }) (LP := LP') (QP := []) (p := p) (c := c) (q := none) (qc := 0) hap.symm rfl ?_
    simp only [rC, List.cons_append, List.nil_append, List.map_nil, List.append_nil, List.length_nil, List.flatten_nil]
    have s := (s.up2.drop.nil 2).up3.rdsSub (T := LP') fun e he => List.mem_append_left _ he
    exact s.dn3.dn2
end
end Go.Proofs.Ytkeggnfffnodmaa
