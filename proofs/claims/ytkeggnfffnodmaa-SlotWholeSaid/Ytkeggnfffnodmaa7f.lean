/- The reference of layer 7: restarts, and calls by number. -/
import Derived.Test.Ytkeggnfffnodmaa7e
set_option linter.unusedVariables false
set_option maxRecDepth 100000
namespace Go.Proofs.Ytkeggnfffnodmaa
open Go Go.Vc Go.Proofs
section
variable {h0 h : Heap} {F : List HP} {b n : Nat} {D : Dev}
theorem mixed_get {was bs : List UInt8} {t : Int} (h1 : was.length = 128) (h2 : bs.length = 128) {i : Nat} (hi : i < 128) (hi' : i < (mixed was bs t).length) : (mixed was bs t)[i] = if (i : Int) < t then bs[i] else was[i] := by
  simp only [mixed, List.getElem_append, List.getElem_take, List.getElem_drop, List.length_take]
  split
  · rw [if_pos (by omega)]
  · rw [if_neg (by omega)]
    congr 1
    omega
theorem mixed_ok {was bs : List UInt8} {p q : Option Addr} {l c m d : Nat} (hw : Bs h p l was) (hb : Bs h q m bs) (h1 : was.length = 128) (h2 : bs.length = 128) (t : Int) :
    CallsH Try.prog n_ref07_Mixed #[.slice p l c, .slice q m d, .int .i64 t] h fun v h' => ∃ p' l' c', v = .slice p' l' c' ∧ New h h' [own 1 p' l' c' (bcs (mixed was bs t))] := by
  refine C_ref07_Mixed p l c q m d t ?_
  unfold F_ref07_Mixed
  have hwl := hw.1
  have hbl := hb.1
  have hml := mixed_length h1 h2 (t := t)
  refine ⟨fun st h' => ∃ k : Nat, st.2 = k ∧ k ≤ 128 ∧ St h h' [own 1 st.1.1 st.1.2.1 st.1.2.2 (bcs ((mixed was bs t).take k))], fun st _ => (128 - st.2).toNat, ⟨0, rfl, by omega, (St.start h).nil 1⟩, ?_⟩
  rintro ⟨⟨sp, sl, sc⟩, i⟩ h3 ⟨k, rfl, hk, s⟩
  dsimp only at *
  have hsl := s.len.1
  rw [bcs_length, List.length_take] at hsl
  rw [br_decide]
  refine ⟨fun hlt => ?_, fun hge => ?_⟩
  · have hk1 : k < 128 := by omega
    have hg := mixed_get h1 h2 (t := t) hk1 (by omega)
    have es : bcs ((mixed was bs t).take (k + 1)) = bcs ((mixed was bs t).take k) ++ [bv (mixed was bs t)[k]] := by
      rw [List.take_succ_eq_append_getElem (by omega), bcs_append]; rfl
    rw [wrap_i64 (by omega) (by omega)]
    have fin : ∀ (x : UInt8) (b6 : Nat) (h7 : Heap), x = (mixed was bs t)[k] → St h h7 [pts b6 0 false [bv x], own 1 sp sl sc (bcs ((mixed was bs t).take k))] →
        appendP 5 1 1 #[Value.int .u8 0] sp sl sc (some (Addr.mk b6 0 none)) 1 h7 fun p8 l9 c10 h11 => (∃ k_1 : Nat, (k : Int) + 1 = k_1 ∧ k_1 ≤ 128 ∧ St h h11 [own 1 p8 l9 c10 (bcs ((mixed was bs t).take k_1))]) ∧ (128 - ((k : Int) + 1)).toNat < (128 - (k : Int)).toNat := by
      intro x b6 h7 hx s
      refine St.append (xs := [bv x]) s.up1 ⟨rfl, by simp only [src, Nat.one_mul]; exact s.row0 rfl⟩ (by simp [bv_one]) rfl (by omega) (by unfold maxLen; omega) fun p8 c10 h11 s _ => ⟨⟨k + 1, by omega, by omega, ?_⟩, by omega⟩
      rw [es, ← hx]
      exact s.up1.drop
    rw [br_decide]
    refine ⟨fun ht => ⟨by omega, by omega, ?_⟩, fun ht => ⟨by omega, by omega, ?_⟩⟩
    · rw [if_pos ht] at hg
      obtain ⟨a, rfl, hc⟩ := (hb.ext s.ext).cell (i := k) (by omega)
      simp only [deref_some, Nat.mul_one, Int.toNat_natCast]
      refine ⟨_, hc, s.newBlk fun b6 h7 _ s _ => fin bs[k] b6 h7 hg.symm s⟩
    · rw [if_neg ht] at hg
      obtain ⟨a, rfl, hc⟩ := (hw.ext s.ext).cell (i := k) (by omega)
      simp only [deref_some, Nat.mul_one, Int.toNat_natCast]
      refine ⟨_, hc, s.newBlk fun b6 h7 _ s _ => fin was[k] b6 h7 hg.symm s⟩
  · have hk2 : k = 128 := by omega
    subst hk2
    rw [List.take_of_length_le (by omega)] at s
    exact ⟨sp, sl, sc, rfl, s.new ⟨owns_own, trivial⟩⟩
theorem rrestart_ok {list : List Int} {lp : Option Addr} {ll lc : Nat} (hs : St h0 h (Rv b D :: rdo 1 lp ll (list.map (Value.int .i64)) :: F)) (w : D.Wf n) (hq : D.queue.length ≤ 1000000) :
    CallsH Try.prog n_ref07_Device_Restart #[ptr b, .slice lp ll lc] h fun v h' => v = unit ∧ St h0 h' (Rv b (restartD D list) :: rdo 1 lp ll (list.map (Value.int .i64)) :: F) := by
  refine C_ref07_Device_Restart (some (Addr.mk b 0 none)) lp ll lc ?_
  unfold F_ref07_Device_Restart
  have hll : list.length = ll := by have := (rd_rdo hs.up1.at).1; simpa using this
  obtain ⟨LP, QP, p, c, q, qc, e1, e2, s⟩ := Rv.op hs
  have hlen := w.len
  have hmax := w.max
  rw [e1, rL_len] at hlen
  rw [e2, rQ_len] at hq
  simp only [deref_some, add_mk, Nat.zero_add, Nat.add_zero]
  refine ⟨fun i h' => ∃ (k : Nat) (LP' : List Pg), i = k ∧ k ≤ QP.length ∧ LP'.length = LP.length ∧ rL LP' = restL D.lasts (D.queue.take k) list ∧ St h0 h' (rC b LP' QP D.fuse D.down p c q qc ++ rdo 1 lp ll (list.map (Value.int .i64)) :: F), fun i _ => (QP.length - i).toNat,
    ⟨0, LP, rfl, Nat.zero_le _, rfl, by simpa [restL] using e1.symm, s⟩, ?_⟩
  clear s hs
  rintro i h3 ⟨k, LP', rfl, hk, hl', hap, s⟩
  simp only [rC, List.cons_append, List.nil_append] at s
  refine ⟨q, _, qc, s.cell0 (i := 1) rfl, ?_⟩
  rw [br_decide]
  refine ⟨fun hlt => ?_, fun hge => ?_⟩
  · have hk1 : k < QP.length := by omega
    have hkd : k < D.queue.length := by rw [e2, rQ_len]; exact hk1
    have hqe := queue_eq e2 hkd hk1
    have hw := w.waits _ (List.getElem_mem hkd)
    rw [hqe] at hw
    obtain ⟨hw1, hw2⟩ := hw
    dsimp only at hw1 hw2
    have hin : QP[k].1 < LP'.length := by omega
    obtain ⟨b2, o2, rfl, _, hc⟩ := s.up2.rowGet (rRow_len QP) (by omega) (i := k) (by simpa using hk1)
    have c0 := hc 0 (.int .i64 (QP[k].1 : Int)) (by simp [rRow])
    have c1 := hc 1 QP[k].2.1.v (by simp [rRow])
    obtain ⟨a, rfl, cl⟩ := (rd_own s.up1.at).cell (i := QP[k].1) (by simpa using hin)
    obtain ⟨pb, po, rfl⟩ := ownMk s.up1
    rw [List.getElem_map] at cl
    have g1 := rds_get s.up3.at (e := LP'[QP[k].1]) (List.mem_append_left _ (List.getElem_mem _))
    have g2 := rds_get s.up3.at (e := QP[k].2) (List.mem_append_right _ (List.mem_map.2 ⟨QP[k], List.getElem_mem _, rfl⟩))
    have hpl : LP'[QP[k].1].2.length = 128 := by
      have := (restL_wf (n := n) (D.queue.take k) D.lasts list w.len w.pages fun x hx => w.waits x (List.mem_of_mem_take hx)).2
      rw [← hap] at this
      exact this _ (List.mem_map.2 ⟨_, List.getElem_mem _, rfl⟩)
    have key : ∀ t : Int, t = list.getD k 0 → CallsH Try.prog n_ref07_Mixed #[.slice LP'[QP[k].1].1.1 LP'[QP[k].1].1.2.1 LP'[QP[k].1].1.2.2, .slice QP[k].2.1.1 QP[k].2.1.2.1 QP[k].2.1.2.2, .int .i64 t] h3 fun v36 h37 => Ext h3 h37 ∧ ∃ p38 l39 c40, v36 = .slice p38 l39 c40 ∧ 0 ≤ (QP[k].1 : Int) ∧ (QP[k].1 : Int) < (LP'.length : Int) ∧
        storeP none h37 (Addr.mk pb (po + QP[k].1) none) (.slice p38 l39 c40) fun h42 =>
          (∃ (k_1 : Nat) (LP' : List Pg), IntKind.i64.wrap ((k : Int) + 1) = k_1 ∧ k_1 ≤ QP.length ∧ LP'.length = LP.length ∧ rL LP' = restL D.lasts (D.queue.take k_1) list ∧ St h0 h42 (rC b LP' QP D.fuse D.down (some (Addr.mk pb po none)) c (some (Addr.mk b2 o2 none)) qc ++ rdo 1 lp ll (list.map (Value.int .i64)) :: F)) ∧
          ((QP.length : Int) - IntKind.i64.wrap ((k : Int) + 1)).toNat < ((QP.length : Int) - (k : Int)).toNat := by
      intro t ht
      refine (mixed_ok g1 g2 hpl hw2 t).mono fun v h37 ⟨p38, l39, c40, hv, nw⟩ => ⟨nw.ext, p38, l39, c40, hv, by omega, by omega, ?_⟩
      have s := s.join nw
      simp only [List.cons_append, List.nil_append] at s
      refine s.up2.ownStore1 (v := .slice p38 l39 c40) (by omega) rfl fun h42 s => ?_
      have ev : (LP'.map (·.1.v)).set QP[k].1 (.slice p38 l39 c40) = (LP'.set QP[k].1 ((p38, l39, c40), mixed LP'[QP[k].1].2 QP[k].2.2 t)).map (·.1.v) := rv_set LP' QP[k].1 ((p38, l39, c40), _)
      rw [ev] at s
      rw [wrap_i64 (by omega) (by omega)]
      refine ⟨⟨k + 1, LP'.set QP[k].1 ((p38, l39, c40), mixed LP'[QP[k].1].2 QP[k].2.2 t), by omega, by omega, by simpa using hl', ?_, ?_⟩, by omega⟩
      · rw [rL_set, hap, List.take_succ_eq_append_getElem hkd, restL_snoc, hqe, List.length_take, Nat.min_eq_left (by omega), ← ht, ← hap]
        simp only
        congr 2
        rw [List.getD_eq_getElem?_getD, List.getElem?_eq_getElem (by rw [rL_len]; exact hin)]
        simp [rL]
      · simp only [rC, List.cons_append, List.nil_append, List.length_set]
        have s := ((s.up1.rdsOwn).up4.rdsJoin).rdsSub (T := LP'.set QP[k].1 ((p38, l39, c40), mixed LP'[QP[k].1].2 QP[k].2.2 t) ++ QP.map (·.2)) (fun e he => by
          rcases List.mem_append.1 he with h | h
          · rcases List.mem_or_eq_of_mem_set h with h | h
            · exact List.mem_append_left _ (List.mem_append_left _ h)
            · rw [h]; exact List.mem_append_right _ (List.mem_singleton.2 rfl)
          · exact List.mem_append_left _ (List.mem_append_right _ h))
        exact s.dn3.up1
    rw [br_decide]
    refine ⟨fun hin2 => ⟨by omega, hin2, ?_⟩, fun hout => ?_⟩
    · have hk2 : k < list.length := by omega
      obtain ⟨la, rfl, lcell⟩ := (rd_rdo s.up4.at).cell (i := k) (by simpa using hk2)
      simp only [deref_some, Nat.mul_one, Int.toNat_natCast]
      refine ⟨list[k], by simpa using lcell, _, _, qc, s.cell0 (i := 1) rfl, by omega, by omega, ?_⟩
      simp only [deref_some, add_mk, Int.toNat_natCast]
      refine ⟨_, c0, _, _, c, s.cell0 (i := 0) rfl, _, _, c, s.cell0 (i := 0) rfl, by omega, by omega, ?_⟩
      simp only [deref_some, Int.toNat_natCast]
      refine ⟨_, _, _, cl, _, _, qc, s.cell0 (i := 1) rfl, by omega, by omega, ?_⟩
      simp only [deref_some, add_mk]
      exact ⟨_, _, _, c1, key list[k] (by simp [List.getD_eq_getElem?_getD, hk2])⟩
    · refine ⟨_, _, qc, s.cell0 (i := 1) rfl, by omega, by omega, ?_⟩
      simp only [deref_some, add_mk, Int.toNat_natCast]
      refine ⟨_, c0, _, _, c, s.cell0 (i := 0) rfl, _, _, c, s.cell0 (i := 0) rfl, by omega, by omega, ?_⟩
      simp only [deref_some, Nat.mul_one, Int.toNat_natCast]
      refine ⟨_, _, _, cl, _, _, qc, s.cell0 (i := 1) rfl, by omega, by omega, ?_⟩
      simp only [deref_some, add_mk]
      exact ⟨_, _, _, c1, key 0 (by rw [List.getD_eq_getElem?_getD, List.getElem?_eq_none (by omega)]; rfl)⟩
  · have hkl : k = QP.length := by omega
    subst hkl
    have hdl : D.queue.length = QP.length := by rw [e2, rQ_len]
    rw [← hdl, List.take_length] at hap
    refine s.store0 (by simp) rfl fun h34 s => ?_
    refine s.store0 (by simp) rfl fun h34 s => ?_
    refine s.store0 (by simp) rfl fun h34 s => ⟨by trivial, ?_⟩
    refine Rv.cl (b := b) (LP := LP') (QP := []) (p := p) (c := c) (q := none) (qc := 0) hap.symm rfl ?_
    simp only [rC, List.cons_append, List.nil_append, List.map_nil, List.append_nil, List.length_nil, List.flatten_nil]
    have s := (s.up2.drop.nil 2).up3.rdsSub (T := LP') fun e he => List.mem_append_left _ he
    exact s.dn3.dn2
end
end Go.Proofs.Ytkeggnfffnodmaa
