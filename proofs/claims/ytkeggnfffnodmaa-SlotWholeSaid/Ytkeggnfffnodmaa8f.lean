/- Layer 8: SlotPlays. -/
import Derived.Test.Ytkeggnfffnodmaa8e
import Derived.Test.YtkeggnfffnodmaaFh
set_option linter.unusedVariables false
set_option maxRecDepth 100000
namespace Go.Proofs.Ytkeggnfffnodmaa
open Go Go.Vc Go.Proofs
structure OpT where
  k : Int
  i : Int
  a : Int
  b : List UInt8
  list : List Int
def OpTR (h : Heap) (cs : List Value) (o : OpT) : Prop := ∃ p l c lp ll lc, cs = [.int .i64 o.k, .int .i64 o.i, .int .i64 o.a, .slice p l c, .slice lp ll lc] ∧ Bs h p l o.b ∧ Rd h 1 lp ll (o.list.map (Value.int .i64)) ∧ o.i ≤ 9223372036854775807 ∧ ll = o.list.length ∧ l ≤ c
def OpTs (h : Heap) (p : Option Addr) (n : Nat) (os : List OpT) : Prop := ∃ rows : List (List Value), rows.length = n ∧ os.length = n ∧ Rd h 5 p n rows.flatten ∧ ∀ i (h1 : i < rows.length) (h2 : i < os.length), OpTR h rows[i] os[i]
theorem OpTR.ext {h h' : Heap} {cs : List Value} {o : OpT} (r : OpTR h cs o) (e : Ext h h') : OpTR h' cs o := by
  obtain ⟨p, l, c, lp, ll, lc, a, b, d, f⟩ := r
  exact ⟨p, l, c, lp, ll, lc, a, b.ext e, d.ext e, f⟩
theorem OpTs.ext {h h' : Heap} {p : Option Addr} {n : Nat} {os : List OpT} (r : OpTs h p n os) (e : Ext h h') : OpTs h' p n os := by
  obtain ⟨rows, a, b, c, d⟩ := r
  exact ⟨rows, a, b, c.ext e, fun i h1 h2 => (d i h1 h2).ext e⟩
theorem OpTs.len {h : Heap} {p : Option Addr} {n : Nat} {os : List OpT} (r : OpTs h p n os) : os.length = n := r.choose_spec.2.1
theorem OpTs.get {h : Heap} {p : Option Addr} {n : Nat} {os : List OpT} (r : OpTs h p n os) {i : Nat} (hi : i < n) : ∃ b o q l c lp ll lc, ∃ h2 : i < os.length, p = some (Addr.mk b o none) ∧
    Bs h q l os[i].b ∧ Rd h 1 lp ll (os[i].list.map (Value.int .i64)) ∧ os[i].i ≤ 9223372036854775807 ∧ ll = os[i].list.length ∧
    cell h (Addr.mk b (o + i * 5 + 3) none) = some (.slice q l c) ∧ cell h (Addr.mk b (o + i * 5 + 4) none) = some (.slice lp ll lc) ∧
    row h (Addr.mk b (o + i * 5) none) 5 = some #[.int .i64 os[i].k, .int .i64 os[i].i, .int .i64 os[i].a, .slice q l c, .slice lp ll lc] ∧ l ≤ c := by
  obtain ⟨rows, h1, h2, h3, h4⟩ := r
  have hsz : ∀ r ∈ rows, r.length = 5 := fun r hr => by
    obtain ⟨j, hj, rfl⟩ := List.mem_iff_getElem.1 hr
    obtain ⟨_, _, _, _, _, _, e, _⟩ := h4 j hj (by omega)
    rw [e]; rfl
  obtain ⟨b, o, e, hc⟩ := rows_get h3 h1 hsz (by omega) hi
  obtain ⟨q, l, c, lp, ll, lc, er, hb, hl, hi1, hi2, hlc⟩ := h4 i (by omega) (by omega)
  have c0 := hc 0 (by omega) (by omega) (by rw [er]; simp)
  have c1 := hc 1 (by omega) (by omega) (by rw [er]; simp)
  have c2 := hc 2 (by omega) (by omega) (by rw [er]; simp)
  have c3 := hc 3 (by omega) (by omega) (by rw [er]; simp)
  have c4 := hc 4 (by omega) (by omega) (by rw [er]; simp)
  simp only [er, List.getElem_cons_zero, List.getElem_cons_succ, Nat.add_zero] at c0 c1 c2 c3 c4
  refine ⟨b, o, q, l, c, lp, ll, lc, by omega, e, hb, hl, hi1, hi2, c3, c4, ?_, hlc⟩
  have := row_of (h := h) (a := Addr.mk b (o + i * 5) none) [.int .i64 os[i].k, .int .i64 os[i].i, .int .i64 os[i].a, .slice q l c, .slice lp ll lc] fun j hj => by
    rw [add_mk]
    match j, hj with
    | 0, _ => simpa using c0
    | 1, _ => simpa using c1
    | 2, _ => simpa using c2
    | 3, _ => simpa using c3
    | 4, _ => simpa using c4
  simpa using this
theorem few8_ok {h : Heap} {p : Option Addr} {l c : Nat} {os : List OpT} (hf : OpTs h p l os) (n : Nat) : CallsH Try.prog n_law08_few #[.slice p l c, .int .i64 n] h fun v h' => (∃ t, v = .bool t ∧ (t = true → os.length ≤ n)) ∧ h' = h := by
  refine C_law08_few p l c n ?_
  unfold F_law08_few
  have hlen := hf.len
  refine ⟨fun i h' => h' = h ∧ ∃ k : Nat, i = k ∧ k ≤ l, fun i _ => (l - i).toNat, ⟨rfl, 0, rfl, Nat.zero_le _⟩, ?_⟩
  rintro i h3 ⟨rfl, k, rfl, hk⟩
  have fin : (∃ t, Value.bool (decide ((l : Int) ≤ n)) = .bool t ∧ (t = true → os.length ≤ n)) := ⟨_, rfl, fun ht => by have := of_decide_eq_true ht; omega⟩
  have bad : (∃ t, Value.bool false = .bool t ∧ (t = true → os.length ≤ n)) := ⟨false, rfl, fun ht => by cases ht⟩
  rw [br_decide]
  refine ⟨fun hlt => ?_, fun _ => ⟨fin, by trivial⟩⟩
  rw [br_decide]
  refine ⟨fun h300 => ⟨by omega, hlt, ?_⟩, fun _ => ⟨fin, by trivial⟩⟩
  obtain ⟨b, o, q, ql, qc, lp, ll, lc, h2, rfl, hb, hl, _, _, c2, c3, _⟩ := hf.get (i := k) (by omega)
  simp only [deref_some, add_mk, Int.toNat_natCast]
  refine ⟨_, _, _, c2, ?_⟩
  rw [br_decide]
  refine ⟨fun _ => ⟨bad, by trivial⟩, fun _ => ⟨by omega, hlt, _, _, _, c3, ?_⟩⟩
  rw [br_decide]
  refine ⟨fun _ => ⟨bad, by trivial⟩, fun _ => ?_⟩
  rw [wrap_i64 (by omega) (by omega)]
  exact ⟨⟨by trivial, k + 1, by omega, by omega⟩, by omega⟩
theorem row_ext8 {h h' : Heap} (e : Ext h h') {a : Addr} {n : Nat} {cs : Array Value} (hr : row h a n = some cs) : row h' a n = some cs := src_ext e (p := some a) hr
theorem pickL_len {i : Nat} {acc : Nat × List UInt8} {b : List UInt8} (h : acc.2.length ≤ 110) : (pickL i acc b).2.length ≤ 110 := by
  rw [pickL_right]
  split
  · exact right_len b i
  · exact h
theorem loadD_len (D : Dev) (a : Int) : (loadD D a).1.2.length ≤ 110 := by
  unfold loadD
  split
  · exact Nat.zero_le _
  · split
    · exact Nat.zero_le _
    · exact pickL_len (pickL_len (Nat.zero_le _))
theorem saveD_wf {D : Dev} {n : Nat} (w : D.Wf n) (a : Int) (xs : List UInt8) : (saveD D a xs).2.Wf n := by
  have w1 := fun i xs => writeD_wf w i xs
  unfold saveD
  split; exact w
  split; exact w
  split; exact w
  split; exact w1 _ _
  split <;> exact flushD_wf (w1 _ _)
theorem saveD_q {D : Dev} (a : Int) (xs : List UInt8) : (saveD D a xs).2.queue.length ≤ D.queue.length + 1 := by
  have w1 := fun i xs => writeD_q (D := D) i xs
  have w2 := fun i xs => Nat.le_trans (flushD_q (D := (writeD D i xs).2)) (w1 i xs)
  unfold saveD
  split; exact Nat.le_succ _
  split; exact Nat.le_succ _
  split; exact Nat.le_succ _
  split; exact w1 _ _
  split <;> exact w2 _ _
theorem slotPlays_ok {h : Heap} {p : Option Addr} {l c : Nat} {os : List OpT} (hf : OpTs h p l os) : CallsH Try.prog n_law08_SlotPlays #[.slice p l c] h fun v h' => v = .bool true ∧ Ext h h' := by
  refine C_law08_SlotPlays p l c ?_
  unfold F_law08_SlotPlays
  have hlen := hf.len
  refine ⟨fun _ h' => os.length ≤ 50 ∧ St h h' [], ?_, ?_⟩
  · refine (awake8_ok h).mono fun v h1 ⟨hv, e1⟩ => ⟨e1, true, hv, br_no rfl ?_⟩
    have s := (St.start h).keep e1
    refine (few8_ok (hf.ext s.ext) 50).mono fun v h7 ⟨⟨t, hv, ht⟩, hh⟩ => ?_
    subst hh
    refine ⟨Ext.refl _, t, hv, ?_⟩
    cases t
    · exact br_yes rfl (awake8_end s)
    · exact br_no rfl ⟨ht rfl, s⟩
  rintro _ h14 ⟨hfew, s⟩
  refine (new_ok h14 8 (by omega)).mono fun v h16 ⟨d, hv, nw⟩ => ⟨nw.ext, some (Addr.mk d 0 none), 0, hv, ?_⟩
  have s := s.join nw
  refine (rnew_ok s 8 (by omega)).mono fun v h20 ⟨r, hv, s⟩ => ⟨some (Addr.mk r 0 none), hv, ?_⟩
  refine ⟨fun i h' => ∃ (k : Nat) (D : Dev), i = k ∧ k ≤ l ∧ D.Wf 8 ∧ D.queue.length ≤ k ∧ St h h' [Rv r D, Dv d D], fun i _ => (l - i).toNat, ⟨0, _, rfl, Nat.zero_le _, newD_wf (by omega), Nat.le_refl _, s⟩, ?_⟩
  clear s
  rintro i h25 ⟨k, D, rfl, hk, w, hq, s⟩
  rw [br_decide]
  refine ⟨fun hlt => ⟨by omega, hlt, ?_⟩, fun hge => ⟨rfl, s.ext⟩⟩
  obtain ⟨b, o, q, ql, qc, lp, ll, lc, h2, rfl, hb, hl, hi1, _, _, _, hrow, hqc⟩ := hf.get (i := k) (by omega)
  simp only [deref_some, add_mk, Int.toNat_natCast, Nat.zero_add, Nat.add_zero]
  refine ⟨_, row_ext8 s.ext hrow, s.newBlk fun b28 h29 _ s _ => s.storeAll (by simp) (by simp) (by
    intro v hv
    simp at hv
    rcases hv with h | h | h | h | h <;> subst h <;> rfl) fun h30 s => ?_⟩
  generalize os[k] = op at *
  rw [wrap_i64 (by omega) (by omega)]
  refine ⟨fun _ h' => -4 ≤ op.a ∧ op.a ≤ 10 ∧ St h h' [pts b28 0 false [.int .i64 op.k, .int .i64 op.i, .int .i64 op.a, .slice q ql qc, .slice lp ll lc], Rv r D, Dv d D], ?_, ?_⟩
  · refine ⟨_, s.cell0 (i := 2) rfl, ?_⟩
    rw [br_decide]
    refine ⟨fun _ => ⟨⟨k + 1, D, by omega, by omega, w, by omega, s.drop⟩, by omega⟩, fun hlo => ⟨_, s.cell0 (i := 2) rfl, ?_⟩⟩
    rw [br_decide]
    exact ⟨fun _ => ⟨⟨k + 1, D, by omega, by omega, w, by omega, s.drop⟩, by omega⟩, fun hhi => ⟨by omega, by omega, s⟩⟩
  clear s
  rintro _ h35 ⟨ha1, ha2, s⟩
  refine ⟨fun _ h' => ∃ D : Dev, D.Wf 8 ∧ D.queue.length ≤ k + 1 ∧ St h h' [pts b28 0 false [.int .i64 op.k, .int .i64 op.i, .int .i64 op.a, .slice q ql qc, .slice lp ll lc], Rv r D, Dv d D], ?_, ?_⟩
  · refine ⟨_, s.cell0 (i := 0) rfl, ?_⟩
    simp only [br_beq]
    have wW := writeD_wf w op.i op.b
    have qW := writeD_q (D := D) op.i op.b
    have s1 := (s.old hb.2).up3
    refine ⟨fun e1 => ⟨_, s.cell0 (i := 2) rfl, _, _, _, s.cell0 (i := 3) rfl, ?_⟩, fun e1 => ⟨fun e2 => ?_, fun e2 => ⟨fun e3 => ⟨_, s.cell0 (i := 1) rfl, ?_⟩, fun e3 => ⟨fun e4 => ⟨_, _, _, s.cell0 (i := 4) rfl, ?_⟩, fun e4 => ⟨fun e5 => ?_, fun e5 => ⟨D, w, by omega, s⟩⟩⟩⟩⟩⟩
    · refine (save_ok (at_ := op.a) s1 w (by omega) (by omega) (by omega)).mono fun v h43 ⟨hv, s⟩ => ⟨_, _, hv, _, s.up2.cell0 (i := 2) rfl, _, _, _, s.up2.cell0 (i := 3) rfl, ?_⟩
      refine (rsave_ok (at_ := op.a) (s.up1.up3) w (by omega) (by omega) (by omega)).mono fun v h51 ⟨hv, s⟩ => ⟨_, _, hv, br_no (by simp) (br_no (by simp) ⟨_, saveD_wf w op.a op.b, by have := saveD_q (D := D) op.a op.b; omega, ?_⟩)⟩
      exact s.up1.drop.up2
    · have core : ∀ (K : Int → Heap → Prop), (∀ h59, St h h59 [Dv d (writeD D op.i op.b).2, rdo 1 q ql (bcs op.b), pts b28 0 false [.int .i64 op.k, .int .i64 op.i, .int .i64 op.a, .slice q ql qc, .slice lp ll lc], Rv r D] → K (writeD D op.i op.b).1 h59) →
          CallsH Try.prog n_device_Device_Write #[.pointer (some (Addr.mk d 0 none)), .int .i64 op.i, .slice q ql qc] h35 fun v58 h59 => ∃ n60, v58 = .int .i64 n60 ∧ K n60 h59 := fun K hK =>
        (write_ok s1 w op.i (by omega)).mono fun v h59 ⟨hv, s⟩ => ⟨_, hv, hK h59 s⟩
      have core2 : ∀ h59, St h h59 [Dv d (writeD D op.i op.b).2, rdo 1 q ql (bcs op.b), pts b28 0 false [.int .i64 op.k, .int .i64 op.i, .int .i64 op.a, .slice q ql qc, .slice lp ll lc], Rv r D] →
          CallsH Try.prog n_ref07_Device_Write #[.pointer (some (Addr.mk r 0 none)), .int .i64 op.i, .slice q ql qc] h59 fun v65 h66 => ∃ n67, v65 = .int .i64 n67 ∧ br ((writeD D op.i op.b).1 != n67) (Value.bool false = .bool true ∧ Ext h h66)
            (∃ D : Dev, D.Wf 8 ∧ D.queue.length ≤ k + 1 ∧ St h h66 [pts b28 0 false [.int .i64 op.k, .int .i64 op.i, .int .i64 op.a, .slice q ql qc, .slice lp ll lc], Rv r D, Dv d D]) := fun h59 s =>
        (rwrite_ok s.up1.up3 w op.i (by omega)).mono fun v h66 ⟨hv, s⟩ => ⟨_, hv, br_no (by simp) ⟨_, wW, by omega, s.up1.drop.up2⟩⟩
      exact ⟨_, s.cell0 (i := 1) rfl, _, _, _, s.cell0 (i := 3) rfl, core _ fun h59 s => ⟨_, s.up2.cell0 (i := 1) rfl, _, _, _, s.up2.cell0 (i := 3) rfl, core2 h59 s⟩,
        ⟨_, s.cell0 (i := 1) rfl, core _ fun h59 s => ⟨_, _, _, s.up2.cell0 (i := 3) rfl, core2 h59 s⟩, _, _, _, s.cell0 (i := 3) rfl, core _ fun h59 s => core2 h59 s⟩,
        _, _, _, s.cell0 (i := 3) rfl, core _ fun h59 s => ⟨_, s.up2.cell0 (i := 1) rfl, core2 h59 s⟩, _, s.cell0 (i := 1) rfl, core _ fun h59 s => core2 h59 s⟩
    · refine (setFuse_ok s.up2 op.i).mono fun v h106 ⟨hv, s⟩ => ⟨hv, _, s.up1.cell0 (i := 1) rfl, ?_⟩
      obtain ⟨LP, QP, p', c', q', qc', x1, x2, s⟩ := Rv.op s.up2
      simp only [rC, List.cons_append, List.nil_append] at s
      refine s.store0 (by simp) rfl fun h8 s => ⟨fuseD D op.i, fuseD_wf w hi1, by show D.queue.length ≤ _; omega, ?_⟩
      have em : maxI op.i (-1) = max op.i (-1) := by unfold maxI; split <;> omega
      rw [em] at s
      exact (Rv.cl (D := fuseD D op.i) (LP := LP) (QP := QP) (p := p') (c := c') (q := q') (qc := qc') x1 x2 s).up2
    · refine (restart_ok (s.old hl).up3 w (by omega)).mono fun v h114 ⟨hv, s⟩ => ⟨hv, _, _, _, s.up2.cell0 (i := 4) rfl, ?_⟩
      refine (rrestart_ok s.up1.up3 w (by omega)).mono fun v h119 ⟨hv, s⟩ => ⟨hv, _, restartD_wf w op.list, Nat.zero_le _, s.up1.drop.up2⟩
    · refine (flush_ok s.up2 w (by omega)).mono fun v h121 ⟨hv, s⟩ => ⟨_, hv, ?_⟩
      refine (rflush_ok s.up2 w (by omega)).mono fun v h124 ⟨hv, s⟩ => ⟨_, hv, br_no (by simp) ⟨_, flushD_wf w, by have := flushD_q (D := D); omega, s.up2⟩⟩
  clear s
  rintro _ h127 ⟨D2, w2, hq2, s⟩
  refine ⟨_, s.cell0 (i := 2) rfl, ?_⟩
  refine (load_ok s.up2.at w2 (by omega) (by omega)).mono fun v h130 ⟨p132, l133, c134, hv, nw⟩ => ⟨nw.ext, _, p132, l133, c134, _, hv, ?_⟩
  have s := s.keep nw.ext
  refine ⟨_, s.cell0 (i := 2) rfl, ?_⟩
  refine (rload_ok s.up1.at w2 (by omega) (by omega) (by omega)).mono fun v h138 ⟨⟨p140, l141, c142, hv, hb2⟩, hh⟩ => ?_
  subst hh
  refine ⟨Ext.refl _, _, p140, l141, c142, _, hv, br_no (by simp) (br_no (by simp) ?_)⟩
  have hb1 := bs_own nw.st.at
  refine (same_ok hb1 hb2 (by have := hb1.1; have := loadD_len D2 op.a; omega)).mono fun v h145 ⟨hv, hh⟩ => ?_
  subst hh
  refine ⟨Ext.refl _, true, by rw [hv, decide_eq_true rfl], br_no rfl ?_⟩
  obtain ⟨LP, QP, rp, rc, rq, rqc, x1, x2, a1, _⟩ := Rv.at s.up1.at
  refine ⟨_, pts_cell a1 (i := 3) rfl, (down_ok s.up2.at).mono fun v h150 ⟨hv, hh⟩ => ?_⟩
  subst hh
  exact ⟨Ext.refl _, _, hv, br_no (by cases D2.down <;> rfl) ⟨⟨k + 1, D2, by omega, by omega, w2, hq2, s.drop⟩, by omega⟩⟩
abbrev op8Shape : Shape := .cons (.int .i64) (.cons (.int .i64) (.cons (.int .i64) (.cons (.slice (.int .u8)) (.cons (.slice (.int .i64)) .nil))))
theorem ints8_rows {h : Heap} : ∀ {rows : List (List Value)}, (∀ r ∈ rows, Rdb h (.int .i64) r) → ∃ xs : List Int, xs.length = rows.length ∧ rows.flatten = xs.map (Value.int .i64)
  | [], _ => ⟨[], rfl, rfl⟩
  | r :: rs, hr => by
    obtain ⟨xs, h1, h2⟩ := ints8_rows fun x hx => hr x (List.mem_cons_of_mem _ hx)
    obtain ⟨n, e, _⟩ := hr r (List.mem_cons_self ..)
    exact ⟨n :: xs, by simp [h1], by rw [List.flatten_cons, h2, e]; rfl⟩
theorem ints8_rdb {h : Heap} {cs : List Value} (r : Rdb h (.slice (.int .i64)) cs) : ∃ p l c, ∃ xs : List Int, cs = [.slice p l c] ∧ xs.length = l ∧ Rd h 1 p l (xs.map (Value.int .i64)) := by
  obtain ⟨p, l, c, e, _, _, rows, h1, h2, h3⟩ := r
  obtain ⟨xs, g1, g2⟩ := ints8_rows h3
  exact ⟨p, l, c, xs, e, by omega, by rw [← g2]; exact h2⟩
theorem op8_of {h : Heap} {cs : List Value} (r : Rdb h op8Shape cs) : ∃ o, OpTR h cs o := by
  obtain ⟨a, r1, e1, ⟨k, ha, hk⟩, b, r2, e2, ⟨x, hb, hx⟩, g, r3, e3, ⟨y, hg, hy⟩, c, r4, e4, hc, d, r5, e5, hd, hr5⟩ := r
  obtain ⟨p, l, cp, bs, e, h1, h2, h3⟩ := Rdb.bytes hc
  obtain ⟨lp, ll, lc, xs, e', g1, g2⟩ := ints8_rdb hd
  have hr5 : r5 = [] := hr5
  refine ⟨⟨k, x, y, bs, xs⟩, p, l, cp, lp, ll, lc, ?_, h3, g2, (wf_i64 hx).2, g1.symm, h1⟩
  rw [e1, ha, e2, hb, e3, hg, e4, e, e5, e', hr5]
  rfl
theorem ops8_of {h : Heap} : ∀ {rows : List (List Value)}, (∀ r ∈ rows, Rdb h op8Shape r) → ∃ fs : List OpT, fs.length = rows.length ∧ ∀ i (h1 : i < rows.length) (h2 : i < fs.length), OpTR h rows[i] fs[i]
  | [], _ => ⟨[], rfl, fun i h1 => by simp at h1⟩
  | r :: rs, hr => by
    obtain ⟨fs, h1, h2⟩ := ops8_of fun x hx => hr x (List.mem_cons_of_mem _ hx)
    obtain ⟨f, hf⟩ := op8_of (hr r (List.mem_cons_self ..))
    refine ⟨f :: fs, by simp [h1], fun i a b => ?_⟩
    cases i with
    | zero => exact hf
    | succ i => exact h2 i (by simpa using a) (by simpa using b)
theorem ops8_arg {h : Heap} {v : Value} (a : ArgR h (.slice op8Shape) v) : ∃ p l c fs, v = .slice p l c ∧ OpTs h p l fs := by
  obtain ⟨p, l, c, e, h1, h2, rows, h3, h4, h5⟩ := a
  obtain ⟨fs, g1, g2⟩ := ops8_of h5
  exact ⟨p, l, c, fs, by simpa using e, rows, h3, by omega, h4, g2⟩
end Go.Proofs.Ytkeggnfffnodmaa
