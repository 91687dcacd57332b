/- Layer 18: Encode. -/
import Derived.Test.YthlmiijlhiiccaaGreatmc
set_option linter.unusedVariables false
set_option maxRecDepth 100000
namespace Go.Proofs.YthlmiijlhiiccaaGreat
open Go Go.Vc Go.Proofs Go.Vc.Keys
def headBytes (s : Sg) : Bytes := numB s.epoch.toNat 4 ++ (numB s.tick.toNat 4 ++ (s.tree ++ s.log))
structure HdR (cs : List Value) (s : Sg) : Prop where
  len : cs.length = 66
  epoch : cs[0]? = some (.int .i64 s.epoch)
  tick : cs[1]? = some (.int .i64 s.tick)
  tree : (cs.drop 2).take 32 = bcs s.tree
  log : (cs.drop 34).take 32 = bcs s.log
  lens : s.tree.length = 32 ∧ s.log.length = 32
theorem SgR.head {h : Heap} {cs : List Value} {s : Sg} (r : SgR h cs s) : HdR ((cs.drop 0).take 66) s := by
  have hl := r.len
  refine ⟨by simp; omega, ?_, ?_, ?_, ?_, r.lens⟩
  · rw [List.drop_zero, List.getElem?_take, if_pos (by omega)]; exact r.epoch
  · rw [List.drop_zero, List.getElem?_take, if_pos (by omega)]; exact r.tick
  · rw [List.drop_zero, List.drop_take, List.take_take]; exact r.tree
  · rw [List.drop_zero, List.drop_take, List.take_take]; exact r.log
section
variable {h0 h : Heap} {F : List HP} {b N : Nat} {o : OB}
theorem oout_ok (hs : St h0 h (Wo b o N :: F)) (hN : N ≤ 1000000000) : CallsH Tryz.prog n_wire_Writer_Out #[ptr b] h fun v h' => ∃ p l c, v = .tuple #[.slice p l c, .int .i64 (if o = none then 4 else 0)] ∧ New h h' [own 1 p l c (bcs (o.getD []))] := by
  obtain ⟨bs, sp, h1, h2, s⟩ := Wo.op hs
  refine (out_ok s.at (by omega)).mono fun v h' ⟨p, l, c, hv, nw⟩ => ⟨p, l, c, ?_⟩
  cases o with
  | none =>
    have h2 : sp = true := h2
    subst h2
    exact ⟨hv, nw⟩
  | some x =>
    obtain ⟨rfl, rfl⟩ : sp = false ∧ bs = x := h2
    exact ⟨hv, nw⟩
theorem Wo.mk (hs : St h0 h (pts b 0 false [.slice none 0 0, .bool false] :: F)) : St h0 h (Wo b (some []) 0 :: F) := Wo.cl (W.mk hs) (Nat.le_refl 0) ⟨rfl, rfl⟩
theorem is_ok {cs : List Value} {s : Sg} (hx : HdR cs s) : CallsH Tryz.prog n_head_Head_is #[.agg cs.toArray] h fun v h' => v = .bool (decide (headOk s)) ∧ Ext h h' := by
  refine C_head_Head_is cs.toArray ?_
  unfold F_head_Head_is
  refine (St.start h).newBlk fun b0 h1 _ st e => ?_
  simp only [add_mk, Nat.zero_add]
  refine ⟨_, st.cell0 (i := 0) hx.epoch, ?_⟩
  rw [br_decide]
  refine ⟨fun h1' => ⟨_, st.cell0 (i := 0) hx.epoch, ?_⟩, fun h1' => ⟨by rw [decide_eq_false (fun hh => h1' hh.1)], e⟩⟩
  rw [br_decide]
  refine ⟨fun h2' => ⟨_, st.cell0 (i := 1) hx.tick, ?_⟩, fun h2' => ⟨by rw [decide_eq_false (fun hh => h2' (by have := hh.2.1; omega))], e⟩⟩
  rw [br_decide]
  refine ⟨fun h3' => ⟨_, st.cell0 (i := 1) hx.tick, ?_, e⟩, fun h3' => ⟨by rw [decide_eq_false (fun hh => h3' hh.2.2.1)], e⟩⟩
  congr 1
  rw [decide_eq_decide]
  constructor
  · intro h4; exact ⟨h1', by omega, h3', by omega⟩
  · intro hh; have := hh.2.2.2; omega
theorem hencode_ok {cs : List Value} {s : Sg} (hx : HdR cs s) : CallsH Tryz.prog n_head_Encode #[.agg cs.toArray] h fun v h' =>
    (headOk s ∧ ∃ p l c, v = .tuple #[.slice p l c, .int .i64 0] ∧ New h h' [own 1 p l c (bcs (headBytes s))]) ∨ (¬ headOk s ∧ v = .tuple #[.slice none 0 0, .int .i64 1] ∧ Ext h h') := by
  refine C_head_Encode cs.toArray ?_
  unfold F_head_Encode
  have hlen := hx.len
  refine (St.start h).newBlk fun b0 h1 _ st _ => ?_
  refine ⟨_, st.row0 (by simp [hlen]), ?_⟩
  refine (is_ok hx).mono fun v h4 ⟨hv, e⟩ => ⟨e, _, hv, ?_⟩
  have st := st.keep e
  rw [br_not, br_and]
  refine ⟨fun ht => ?_, fun ht => .inr ⟨of_decide_eq_false ht, rfl, st.ext⟩⟩
  have ho := of_decide_eq_true ht
  obtain ⟨o1, o2, o3, o4⟩ := id ho
  refine st.newBlk fun b6 h7 _ st _ => ?_
  simp only [add_mk, Nat.zero_add]
  have st := Wo.mk st
  have hw : ∀ n : Int, 1 ≤ n → n ≤ 2147483647 → IntKind.wrap .u32 n = ((n.toNat : Nat) : Int) := fun n h1 h2 => by rw [wrap_u32]; omega
  refine ⟨_, st.up1.cell0 (i := 0) hx.epoch, ?_⟩
  rw [hw _ o1 o2]
  refine (ou32_ok st _ (by omega) (by omega)).mono fun v h10 ⟨hv, st⟩ => ⟨hv, _, st.up1.cell0 (i := 1) hx.tick, ?_⟩
  rw [hw _ o3 o4]
  refine (ou32_ok st _ (by omega) (by omega)).mono fun v h13 ⟨hv, st⟩ => ⟨hv, ?_⟩
  refine sliceP_to (n := 32) (by omega) ?_
  have hb1 := bs_part st.up1 (by show 2 + 32 ≤ cs.length; omega) hx.tree
  have h32 := hx.lens.1
  have h32' := hx.lens.2
  refine (oplain_ok (c := 32) st hb1 (by omega) (by omega)).mono fun v h18 ⟨hv, st⟩ => ⟨hv, ?_⟩
  refine sliceP_to (n := 32) (by omega) ?_
  have hb2 := bs_part st.up1 (by show 34 + 32 ≤ cs.length; omega) hx.log
  refine (oplain_ok (c := 32) st hb2 (by omega) (by omega)).mono fun v h23 ⟨hv, st⟩ => ⟨hv, ?_⟩
  refine (oout_ok st (by omega)).mono fun v h25 ⟨p, l, c, hv, nw⟩ => ⟨nw.ext, p, l, c, _, hv, .inl ⟨ho, p, l, c, rfl, ?_⟩⟩
  have e2 : headBytes s = (app (app (app (app (some []) (some (numB s.epoch.toNat 4))) (some (numB s.tick.toNat 4))) (some s.tree)) (some s.log)).getD [] := by simp [app, headBytes]
  rw [e2]
  exact nw.under st.ext
theorem hput_ok {cs : List Value} {s : Sg} (hs : St h0 h (Wo b o N :: F)) (hx : SgR h0 cs s) (hN : N ≤ 900000000) (hl : s.sig.length ≤ 20000) : CallsH Tryz.prog n_head_Put #[ptr b, .agg cs.toArray] h (Did h0 F b (N + 30000) (app o (encG s))) := by
  refine C_head_Put (some (Addr.mk b 0 none)) cs.toArray ?_
  unfold F_head_Put encG
  have hlen := hx.len
  have h32 := hx.lens.1
  have h32' := hx.lens.2
  refine hs.newBlk fun b0 h1 _ st _ => ?_
  simp only [add_mk, Nat.zero_add]
  refine ⟨_, st.rowAt (i := 0) (n := 66) (by show 0 + 66 ≤ cs.length; omega), ?_⟩
  refine (hencode_ok (hx.head)).mono fun v h4 hh => ?_
  rcases hh with ⟨ho, p, l, c, hv, nw⟩ | ⟨ho, hv, e⟩
  · refine ⟨nw.ext, p, l, c, 0, hv, br_no rfl ?_⟩
    have st := st.join nw
    simp only [List.cons_append, List.nil_append] at st
    have hb := bs_own st.at
    have hbl : (headBytes s).length = 72 := by simp [headBytes, numB_length]; omega
    refine (oplain_ok (c := c) st.up2 hb (by omega) (by omega)).mono fun v h12 ⟨hv, st⟩ => ⟨hv, ?_⟩
    obtain ⟨c2, hc2, q, ql, qc, rfl, hq1, hq2⟩ := hx.sig
    refine ⟨_, _, _, st.up2.cell0 (i := 66) hc2, ?_⟩
    refine (ostring_ok (c := qc) st hq2 (by omega) (by omega)).mono fun v h17 ⟨hv, st⟩ => ⟨hv, rfl, ?_⟩
    rw [if_pos ho]
    unfold encH
    rw [if_pos h32, if_pos h32']
    have e3 : app (some (numB s.epoch.toNat 4)) (app (some (numB s.tick.toNat 4)) (app (some s.tree) (some s.log))) = some (headBytes s) := rfl
    rw [e3, ← app_assoc]
    exact Wo.mono st.up1.drop.up1.drop (by omega)
  · refine ⟨e, none, 0, 0, 1, hv, br_yes rfl ?_⟩
    have st := st.keep e
    have hu := ou8_ok st.up1 (-1) (by omega)
    have he : encI 1 0 255 (-1) = none := by unfold encI; rw [if_neg (by omega)]
    rw [he, app_none] at hu
    rw [if_neg ho, none_app, app_none]
    exact hu.mono fun v h10 ⟨hv, st⟩ => ⟨hv, rfl, Wo.mono st.up1.drop (by omega)⟩
def fldC (fs : List Nat) : List Value := fs.map fun (i : Nat) => Value.int .i64 (i : Int)
theorem fields_ok (k : Int) : CallsH Tryz.prog n_message_fields #[.int .i64 k] h fun v h' => ∃ p l c, v = .slice p l c ∧ (p = none ↔ fieldsK k = []) ∧ New h h' [own 1 p l c (fldC (fieldsK k))] := by
  refine C_message_fields k ?_
  unfold F_message_fields fieldsK
  have fin : ∀ {h' : Heap} {b0 : Nat} (fs : List Nat), fs ≠ [] → fs.length ≤ 100 → St h h' [pts b0 0 false (fldC fs)] → ∃ p l c, Value.slice (some (Addr.mk b0 0 none)) fs.length fs.length = .slice p l c ∧ (p = none ↔ fs = []) ∧ New h h' [own 1 p l c (fldC fs)] := fun fs hne hl st =>
    ⟨_, _, _, rfl, ⟨fun h => (by cases h), fun h => absurd h hne⟩, (st.impl fun m q => ⟨by simp [fldC], Nat.le_refl _, by unfold maxLen; omega, .inr ⟨_, 0, [], rfl, by simp, by rw [List.append_nil]; exact q⟩⟩ : St h _ [own 1 _ fs.length fs.length (fldC fs)]).new ⟨owns_own, trivial⟩⟩
  rw [br_beq]
  refine ⟨fun e => ?_, fun n1 => ?_⟩
  · rw [if_pos e]; exact (St.start h).newBlk fun b0 h1 _ st _ => fin [0, 1, 2, 6, 7] (by simp) (by simp) st
  rw [if_neg n1, br_beq]
  refine ⟨fun e => ?_, fun n2 => ?_⟩
  · rw [if_pos e]; exact (St.start h).newBlk fun b0 h1 _ st _ => fin [0, 1, 2, 3, 5] (by simp) (by simp) st
  rw [if_neg n2, br_beq]
  refine ⟨fun e => ?_, fun n3 => ?_⟩
  · rw [if_pos e]; exact (St.start h).newBlk fun b0 h1 _ st _ => fin [0, 1, 2, 3, 4, 6] (by simp) (by simp) st
  rw [if_neg n3, br_beq]
  refine ⟨fun e => ?_, fun n4 => ?_⟩
  · rw [if_pos e]; exact (St.start h).newBlk fun b0 h1 _ st _ => fin [0, 1, 2, 3, 4, 5, 8, 9, 10, 11, 12, 13] (by simp) (by simp) st
  rw [if_neg n4, br_beq]
  refine ⟨fun e => ?_, fun n5 => ?_⟩
  · rw [if_pos e]; exact (St.start h).newBlk fun b0 h1 _ st _ => fin [0, 1, 8, 14, 15] (by simp) (by simp) st
  rw [if_neg n5, br_beq]
  refine ⟨fun e => ?_, fun n6 => ?_⟩
  · rw [if_pos e]; exact (St.start h).newBlk fun b0 h1 _ st _ => fin [0, 1, 3, 4] (by simp) (by simp) st
  rw [if_neg n6, br_beq]
  refine ⟨fun e => ?_, fun n7 => ?_⟩
  · rw [if_pos e]; exact (St.start h).newBlk fun b0 h1 _ st _ => fin [0, 1] (by simp) (by simp) st
  rw [if_neg n7, br_beq]
  refine ⟨fun e => ?_, fun n8 => ?_⟩
  · rw [if_pos e]; exact (St.start h).newBlk fun b0 h1 _ st _ => fin [0, 1, 8, 15, 16] (by simp) (by simp) st
  rw [if_neg n8]
  exact ⟨none, 0, 0, rfl, ⟨fun _ => rfl, fun _ => rfl⟩, ((St.start h).nil 1).new ⟨owns_own, trivial⟩⟩
theorem stops_ok {cs : List Value} {m : Ms} (hk : cs[0]? = some (.int .i64 m.kind)) (he : cs[6]? = some (.int .i64 m.err)) (i : Nat) : CallsH Tryz.prog n_message_Message_stops #[.agg cs.toArray, .int .i64 (i : Int)] h fun v h' => v = .bool (stopsM m i) ∧ Ext h h' := by
  refine C_message_Message_stops cs.toArray i ?_
  unfold F_message_Message_stops stopsM
  refine (St.start h).newBlk fun b0 h1 _ st e => ?_
  simp only [add_mk, Nat.zero_add]
  refine ⟨_, st.cell0 (i := 0) hk, ?_⟩
  rw [br_and]
  refine ⟨fun h4 => ?_, fun h4 => ⟨by rw [h4]; rfl, e⟩⟩
  rw [br_beq, h4]
  refine ⟨fun h8 => ⟨_, st.cell0 (i := 6) he, ?_, e⟩, fun h8 => ⟨?_, e⟩⟩
  · have : (i == 8) = true := by simp; omega
    rw [this]; rfl
  · have : (i == 8) = false := by simp; omega
    rw [this]; rfl
/-- A message of a size that is looked at. -/
structure Small (m : Ms) : Prop where
  sig : m.sg.sig.length ≤ 20000
  growth : m.growth.ahead.length ≤ 5000 ∧ m.growth.behind.length ≤ 5000
  place : m.place.ahead.length ≤ 5000 ∧ m.place.behind.length ≤ 5000
  steps : m.proof.steps.length ≤ 5000
  chain : m.chain.length ≤ 5000
  rows : m.rows.length ≤ 5000
  news : m.news.length ≤ 5000
  trees : m.trees.length ≤ 5000
theorem efield_ok {cs : List Value} {m : Ms} (hs : St h0 h (Wo b o N :: F)) (hx : MsR h0 cs m) (sm : Small m) (hN : N ≤ 700000000) (i : Nat) : CallsH Tryz.prog n_message_encoder_field #[ptr b, .agg cs.toArray, .int .i64 (i : Int)] h (Did h0 F b (N + 2000000) (app o (encF m i))) := by
  refine C_message_encoder_field (some (Addr.mk b 0 none)) cs.toArray i ?_
  unfold F_message_encoder_field
  have hlen := hx.len
  refine hs.newBlk fun b0 h1 _ st _ => ?_
  simp only [deref_some, add_mk, Nat.zero_add]
  have fin : ∀ {v : Value} {h' : Heap} {M : Nat} {o' : OB} {Q : HP}, Did h0 (Q :: F) b M o' v h' → M ≤ N + 2000000 → v = .tuple #[] ∧ Did h0 F b (N + 2000000) o' (.tuple #[]) h' := fun d hM => ⟨d.1, rfl, Wo.mono d.2.up1.drop hM⟩
  have le : ∀ {j n : Nat}, j + n ≤ 279 → j + n ≤ cs.toArray.toList.length := fun h => by show _ ≤ cs.length; omega
  match i with
  | 0 => exact br_yes rfl ⟨_, st.cell0 (i := 1) hx.src, (enumber_ok st.up1 _ (by omega)).mono fun v h' d => fin d (by omega)⟩
  | 1 => exact br_no rfl (br_yes rfl ⟨_, st.cell0 (i := 2) hx.dst, (enumber_ok st.up1 _ (by omega)).mono fun v h' d => fin d (by omega)⟩)
  | 2 => exact br_no rfl (br_no rfl (br_yes rfl ⟨_, st.cell0 (i := 3) hx.seq, (enumber_ok st.up1 _ (by omega)).mono fun v h' d => fin d (by omega)⟩))
  | 3 => exact br_no rfl (br_no rfl (br_no rfl (br_yes rfl ⟨_, st.cell0 (i := 4) hx.epoch, (enumber_ok st.up1 _ (by omega)).mono fun v h' d => fin d (by omega)⟩)))
  | 4 => exact br_no rfl (br_no rfl (br_no rfl (br_no rfl (br_yes rfl ⟨_, st.cell0 (i := 5) hx.known, (enumber_ok st.up1 _ (by omega)).mono fun v h' d => fin d (by omega)⟩))))
  | 5 => exact br_no rfl (br_no rfl (br_no rfl (br_no rfl (br_no rfl (br_yes rfl ⟨_, st.cell0 (i := 6) hx.err, (eerror_ok st.up1 _ (by omega)).mono fun v h' d => fin d (by omega)⟩)))))
  | 6 =>
    obtain ⟨c, hc, hT⟩ := hx.label
    obtain ⟨p, l, cap, rfl, _⟩ := id hT
    exact br_no rfl (br_no rfl (br_no rfl (br_no rfl (br_no rfl (br_no rfl (br_yes rfl ⟨_, _, _, st.cell0 (i := 7) hc, (etext_ok st.up1 hT (by omega)).mono fun v h' d => fin d (by omega)⟩))))))
  | 7 =>
    obtain ⟨c, hc, hT⟩ := hx.value
    obtain ⟨p, l, cap, rfl, _⟩ := id hT
    exact br_no rfl (br_no rfl (br_no rfl (br_no rfl (br_no rfl (br_no rfl (br_no rfl (br_yes rfl ⟨_, _, _, st.cell0 (i := 8) hc, (etext_ok st.up1 hT (by omega)).mono fun v h' d => fin d (by omega)⟩)))))))
  | 8 => exact br_no rfl (br_no rfl (br_no rfl (br_no rfl (br_no rfl (br_no rfl (br_no rfl (br_no rfl (br_yes rfl ⟨_, st.rowAt (i := 9) (n := 67) (le (by omega)), (hput_ok st.up1 hx.sg (by omega) sm.sig).mono fun v h' d => fin d (by omega)⟩))))))))
  | 9 => exact br_no rfl (br_no rfl (br_no rfl (br_no rfl (br_no rfl (br_no rfl (br_no rfl (br_no rfl (br_no rfl (br_yes rfl ⟨_, st.rowAt (i := 76) (n := 2) (le (by omega)), (etrail_ok st.up1 hx.growth (by omega) sm.growth).mono fun v h' d => fin d (by omega)⟩)))))))))
  | 10 => exact br_no rfl (br_no rfl (br_no rfl (br_no rfl (br_no rfl (br_no rfl (br_no rfl (br_no rfl (br_no rfl (br_no rfl (br_yes rfl ⟨_, st.rowAt (i := 78) (n := 2) (le (by omega)), (etrail_ok st.up1 hx.place (by omega) sm.place).mono fun v h' d => fin d (by omega)⟩))))))))))
  | 11 => exact br_no rfl (br_no rfl (br_no rfl (br_no rfl (br_no rfl (br_no rfl (br_no rfl (br_no rfl (br_no rfl (br_no rfl (br_no rfl (br_yes rfl ⟨_, st.rowAt (i := 80) (n := 32) (le (by omega)), (ehash_ok (x := m.tree) st.up1 ⟨hx.treeLen, hx.tree⟩ (by omega)).mono fun v h' d => fin d (by omega)⟩)))))))))))
  | 12 => exact br_no rfl (br_no rfl (br_no rfl (br_no rfl (br_no rfl (br_no rfl (br_no rfl (br_no rfl (br_no rfl (br_no rfl (br_no rfl (br_no rfl (br_yes rfl ⟨_, st.rowAt (i := 112) (n := 163) (le (by omega)), (eproof_ok st.up1 hx.proof (by omega) sm.steps).mono fun v h' d => fin d (by omega)⟩))))))))))))
  | 13 =>
    obtain ⟨c, hc, hL⟩ := hx.chain
    obtain ⟨p, l, cap, rows, rfl, _⟩ := id hL
    have := sm.chain
    exact br_no rfl (br_no rfl (br_no rfl (br_no rfl (br_no rfl (br_no rfl (br_no rfl (br_no rfl (br_no rfl (br_no rfl (br_no rfl (br_no rfl (br_no rfl (br_yes rfl ⟨_, _, _, st.cell0 (i := 275) hc, (elistV_ok st.up1 hL (by omega) this).mono fun v h' d => fin d (by omega)⟩)))))))))))))
  | 14 =>
    obtain ⟨c, hc, hL⟩ := hx.rows
    obtain ⟨p, l, cap, rows, rfl, _⟩ := id hL
    have := sm.rows
    exact br_no rfl (br_no rfl (br_no rfl (br_no rfl (br_no rfl (br_no rfl (br_no rfl (br_no rfl (br_no rfl (br_no rfl (br_no rfl (br_no rfl (br_no rfl (br_no rfl (br_yes rfl ⟨_, _, _, st.cell0 (i := 276) hc, (elistR_ok st.up1 hL (by omega) this).mono fun v h' d => fin d (by omega)⟩))))))))))))))
  | 15 =>
    obtain ⟨c, hc, hL⟩ := hx.news
    obtain ⟨p, l, cap, rows, rfl, _⟩ := id hL
    have := sm.news
    exact br_no rfl (br_no rfl (br_no rfl (br_no rfl (br_no rfl (br_no rfl (br_no rfl (br_no rfl (br_no rfl (br_no rfl (br_no rfl (br_no rfl (br_no rfl (br_no rfl (br_no rfl (br_yes rfl ⟨_, _, _, st.cell0 (i := 277) hc, (elistW_ok st.up1 hL (by omega) this).mono fun v h' d => fin d (by omega)⟩)))))))))))))))
  | 16 =>
    obtain ⟨c, hc, hL⟩ := hx.trees
    obtain ⟨p, l, cap, rows, rfl, _⟩ := id hL
    have := sm.trees
    exact br_no rfl (br_no rfl (br_no rfl (br_no rfl (br_no rfl (br_no rfl (br_no rfl (br_no rfl (br_no rfl (br_no rfl (br_no rfl (br_no rfl (br_no rfl (br_no rfl (br_no rfl (br_no rfl (br_yes rfl ⟨_, _, _, st.cell0 (i := 278) hc, (elistH_ok st.up1 hL (by omega) this).mono fun v h' d => fin d (by omega)⟩))))))))))))))))
  | n + 17 =>
    have h : ∀ k : Int, k < 17 → (((n + 17 : Nat) : Int) == k) = false := fun k hk => by simp; omega
    refine br_no (h _ (by omega)) (br_no (h _ (by omega)) (br_no (h _ (by omega)) (br_no (h _ (by omega)) (br_no (h _ (by omega)) (br_no (h _ (by omega)) (br_no (h _ (by omega)) (br_no (h _ (by omega)) (br_no (h _ (by omega)) (br_no (h _ (by omega)) (br_no (h _ (by omega)) (br_no (h _ (by omega)) (br_no (h _ (by omega)) (br_no (h _ (by omega)) (br_no (h _ (by omega)) (br_no (h _ (by omega)) (br_no (h _ (by omega)) ⟨rfl, ?_⟩))))))))))))))))
    rw [show encF m (n + 17) = some [] from rfl, app_nil]
    exact Wo.mono st.drop (by omega)
end
end Go.Proofs.YthlmiijlhiiccaaGreat
