/- Layer 18: the reference's bytes of a message. -/
import Derived.Test.YthlmiijlhiiccaaGreatmg
set_option linter.unusedVariables false
set_option maxRecDepth 100000
namespace Go.Proofs.YthlmiijlhiiccaaGreat
open Go Go.Vc Go.Proofs Go.Vc.Keys
section
variable {h0 h : Heap} {F : List HP} {b N : Nat} {o : OB}
theorem ris_ok {cs : List Value} {s : Sg} (hx : HdR cs s) : CallsH Tryz.prog n_ref17_Is #[.agg cs.toArray] h fun v h' => v = .bool (decide (headOk s)) ∧ Ext h h' := by
  refine C_ref17_Is cs.toArray ?_
  unfold F_ref17_Is
  refine (St.start h).newBlk fun b0 h1 _ st e => ?_
  simp only [add_mk, Nat.zero_add]
  refine ⟨_, st.cell0 (i := 0) hx.epoch, ?_⟩
  rw [br_decide]
  refine ⟨fun h1' => ⟨_, st.cell0 (i := 0) hx.epoch, ?_⟩, fun h1' => ⟨by rw [decide_eq_false (fun hh => h1' hh.1)], e⟩⟩
  rw [br_decide]
  refine ⟨fun h2' => ⟨_, st.cell0 (i := 1) hx.tick, ?_⟩, fun h2' => ⟨by rw [decide_eq_false (fun hh => h2' hh.2.1)], e⟩⟩
  rw [br_decide]
  refine ⟨fun h3' => ⟨_, st.cell0 (i := 1) hx.tick, ?_, e⟩, fun h3' => ⟨by rw [decide_eq_false (fun hh => h3' hh.2.2.1)], e⟩⟩
  congr 1
  rw [decide_eq_decide]
  constructor
  · intro h4; exact ⟨h1', by omega, h3', by omega⟩
  · intro hh; exact hh.2.2.2
theorem rencode_ok {cs : List Value} {s : Sg} (hx : HdR cs s) : CallsH Tryz.prog n_ref17_Encode #[.agg cs.toArray] h fun v h' =>
    (headOk s ∧ ∃ p l c, v = .tuple #[.slice p l c, .int .i64 0] ∧ New h h' [own 1 p l c (bcs (headBytes s))]) ∨ (¬ headOk s ∧ v = .tuple #[.slice none 0 0, .int .i64 1] ∧ Ext h h') := by
  refine C_ref17_Encode cs.toArray ?_
  unfold F_ref17_Encode
  have hlen := hx.len
  refine (St.start h).newBlk fun b0 h1 _ st _ => ?_
  refine ⟨_, st.row0 (by simp [hlen]), ?_⟩
  refine (ris_ok hx).mono fun v h4 ⟨hv, e⟩ => ⟨e, _, hv, ?_⟩
  have st := st.keep e
  rw [br_not, br_and]
  refine ⟨fun ht => ?_, fun ht => .inr ⟨of_decide_eq_false ht, rfl, st.ext⟩⟩
  have ho := of_decide_eq_true ht
  obtain ⟨o1, o2, o3, o4⟩ := id ho
  simp only [add_mk, Nat.zero_add]
  have hw : ∀ n : Int, 1 ≤ n → n ≤ 2147483647 → IntKind.wrap .u64 n = ((n.toNat : Nat) : Int) := fun n h1 h2 => by rw [wrap_u64]; omega
  refine ⟨_, st.cell0 (i := 0) hx.epoch, ?_⟩
  rw [hw _ o1 o2]
  refine (rnumber_ok s.epoch.toNat 4 (by omega) (by omega)).mono fun v h8 ⟨p9, l10, c11, hv, nw⟩ => ⟨nw.ext, _, _, _, hv, ?_⟩
  have st := st.join nw
  simp only [List.cons_append, List.nil_append] at st
  refine ⟨_, st.up1.cell0 (i := 1) hx.tick, ?_⟩
  rw [hw _ o3 o4]
  refine (rnumber_ok s.tick.toNat 4 (by omega) (by omega)).mono fun v h14 ⟨p15, l16, c17, hv, nw2⟩ => ⟨nw2.ext, _, _, _, hv, ?_⟩
  have st := st.join nw2
  simp only [List.cons_append, List.nil_append] at st
  have hl1 := st.up1.len.1
  have hl2 := st.len.1
  rw [bcs_length, numB_length] at hl1 hl2
  have hrd := rd_own st.at
  have h32 := hx.lens.1
  have h32' := hx.lens.2
  refine St.append st.up1 hrd (one_bcs _) rfl (by omega) (by unfold maxLen; omega) fun p18 c20 h21 st _ => ?_
  refine sliceP_to (n := 32) (by omega) ?_
  have hb1 := bs_part st.up2 (by show 2 + 32 ≤ cs.length; omega) hx.tree
  refine St.append st hb1.2 (bvs_one _) rfl (by omega) (by unfold maxLen; omega) fun p25 c27 h28 st _ => ?_
  refine sliceP_to (n := 32) (by omega) ?_
  have hb2 := bs_part st.up2 (by show 34 + 32 ≤ cs.length; omega) hx.log
  refine St.append st hb2.2 (bvs_one _) rfl (by omega) (by unfold maxLen; omega) fun p32 c34 h35 st _ => ?_
  refine .inl ⟨ho, _, _, _, rfl, ?_⟩
  have e : bcs (numB s.epoch.toNat 4) ++ bcs (numB s.tick.toNat 4) ++ s.tree.map bv ++ s.log.map bv = bcs (headBytes s) := by
    unfold headBytes
    rw [bcs_append, bcs_append, bcs_append, bcs_eq s.tree, bcs_eq s.log]
    simp only [List.append_assoc]
  rw [e] at st
  exact (st.up1.drop.up1.drop).new ⟨owns_own, trivial⟩
theorem rbytes17_ok {cs : List Value} {s : Sg} (hx : SgR h0 cs s) (e0 : Ext h0 h) (hl : s.sig.length ≤ 20000) : CallsH Tryz.prog n_ref17_Bytes #[.agg cs.toArray] h fun v h' => ∃ p l c, v = .tuple #[.slice p l c, .bool (encG s).isSome] ∧ New h h' [own 1 p l c (bcs ((encG s).getD []))] := by
  refine C_ref17_Bytes cs.toArray ?_
  unfold F_ref17_Bytes
  have hlen := hx.len
  refine (St.start h).newBlk fun b0 h1 _ st _ => ?_
  simp only [add_mk, Nat.zero_add]
  refine ⟨_, st.rowAt (i := 0) (n := 66) (by show 0 + 66 ≤ cs.length; omega), ?_⟩
  have h32 := hx.lens.1
  have h32' := hx.lens.2
  have hG : encG s = app (if headOk s then some (headBytes s) else none) (if s.sig.length ≤ 8192 then some (numB s.sig.length 2 ++ s.sig) else none) := by
    unfold encG encH
    rw [if_pos h32, if_pos h32']
    rfl
  have none_ : ∀ {h' : Heap}, encG s = none → Ext h h' → ∃ p l c, Value.tuple #[.slice none 0 0, .bool false] = .tuple #[.slice p l c, .bool (encG s).isSome] ∧ New h h' [own 1 p l c (bcs ((encG s).getD []))] := fun hn e => by
    rw [hn]
    exact ⟨none, 0, 0, rfl, (((St.start h).keep e).nil 1).new ⟨owns_own, trivial⟩⟩
  refine (rencode_ok hx.head).mono fun v h4 hh => ?_
  rcases hh with ⟨ho, p, l, c, hv, nw⟩ | ⟨ho, hv, e⟩
  · refine ⟨nw.ext, p, l, c, 0, hv, br_no rfl ?_⟩
    have st := st.join nw
    simp only [List.cons_append, List.nil_append] at st
    obtain ⟨c2, hc2, q, ql, qc, rfl, hq1, hq2⟩ := hx.sig
    have hql := hq2.1
    have hpl := st.len.1
    have hbl : (headBytes s).length = 72 := by simp [headBytes, numB_length]; omega
    rw [bcs_length] at hpl
    refine ⟨_, _, _, st.up1.cell0 (i := 66) hc2, ?_⟩
    rw [br_decide]
    refine ⟨fun hgt => none_ (by rw [hG, if_neg (show ¬ s.sig.length ≤ 8192 by omega), app_none]) st.ext, fun hle => ⟨_, _, _, st.up1.cell0 (i := 66) hc2, ?_⟩⟩
    have hw : IntKind.wrap .u64 (ql : Int) = (ql : Int) := by rw [wrap_u64]; omega
    rw [hw]
    refine (rnumber_ok ql 2 (by omega) (by omega)).mono fun v h16 ⟨p17, l18, c19, hv, nw2⟩ => ⟨nw2.ext, _, _, _, hv, ?_⟩
    have st := st.join nw2
    simp only [List.cons_append, List.nil_append] at st
    have hl2 := st.len.1
    rw [bcs_length, numB_length] at hl2
    have hrd := rd_own st.at
    refine St.append st.up1 hrd (one_bcs _) rfl (by omega) (by unfold maxLen; omega) fun p20 c22 h23 st _ => ⟨_, _, _, st.up2.cell0 (i := 66) hc2, ?_⟩
    refine St.append st (hq2.2.ext (e0.trans st.ext)) (bvs_one _) rfl (by omega) (by unfold maxLen; omega) fun p27 c29 h30 st _ => ?_
    have e : encG s = some (headBytes s ++ (numB ql 2 ++ s.sig)) := by rw [hG, if_pos ho, if_pos (by omega), hql]; rfl
    rw [e]
    refine ⟨_, _, _, rfl, ?_⟩
    have e2 : bcs (headBytes s) ++ bcs (numB ql 2) ++ s.sig.map bv = bcs (headBytes s ++ (numB ql 2 ++ s.sig)) := by rw [bcs_append, bcs_append, bcs_eq s.sig, List.append_assoc]
    rw [e2] at st
    exact (st.up1.drop.up1.drop).new ⟨owns_own, trivial⟩
  · exact ⟨e, none, 0, 0, 1, hv, br_yes rfl (none_ (by rw [hG, if_neg ho, none_app]) ((st.keep e).ext))⟩
theorem rsigned_ok {cs : List Value} {m : Ms} (hs : St h0 h (Ro b o N :: F)) (hx : MsR h0 cs m) (hN : N ≤ 600000000) (hl : m.sg.sig.length ≤ 20000) : CallsH Tryz.prog n_ref18_Out_signed #[ptr b, .agg cs.toArray] h (Ded h0 F b (N + 30000) (app o (encG m.sg))) := by
  refine C_ref18_Out_signed (some (Addr.mk b 0 none)) cs.toArray ?_
  unfold F_ref18_Out_signed
  have hlen := hx.len
  refine hs.newBlk fun b0 h1 _ st _ => ?_
  simp only [deref_some, add_mk, Nat.zero_add]
  refine ⟨_, st.rowAt (i := 9) (n := 66) (by show _ ≤ cs.length; omega), ?_⟩
  obtain ⟨c, hc, q, ql, qc, rfl, hq1, hq2⟩ := hx.sg.sig
  have hc75 : cs[75]? = some (.slice q ql qc) := by
    rw [List.getElem?_take, if_pos (by omega), List.getElem?_drop] at hc
    exact hc
  refine ⟨_, _, _, st.cell0 (i := 75) hc75, by simp; omega, ?_⟩
  have e67 : ((cs.drop 9).take 66) ++ [.slice q ql qc] = (cs.drop 9).take 67 := by
    obtain ⟨hi, he⟩ := List.getElem?_eq_some_iff.1 hc75
    rw [List.take_succ_eq_append_getElem (i := 66) (by rw [List.length_drop]; omega)]
    congr 2
    rw [List.getElem_drop]
    exact he.symm
  have ea : (List.toArray ((((cs.drop 9).take 66).toArray).toList ++ [.slice q ql qc])) = ((cs.drop 9).take 67).toArray := by rw [← e67]
  show CallsH Tryz.prog n_ref17_Bytes #[.agg (List.toArray ((((cs.drop 9).take 66).toArray).toList ++ [.slice q ql qc]))] h1 _
  rw [ea]
  refine (rbytes17_ok hx.sg st.ext hl).mono fun v h7 ⟨p8, l9, c10, hv, nw⟩ => ⟨nw.ext, _, _, _, _, hv, ?_⟩
  have st := st.join nw
  simp only [List.cons_append, List.nil_append] at st
  have hrd := rd_own st.at
  have hgl : ((encG m.sg).getD []).length ≤ 30000 := by
    unfold encG encH
    rw [if_pos hx.sg.lens.1, if_pos hx.sg.lens.2]
    have e1 := hx.sg.lens.1
    have e2 := hx.sg.lens.2
    split <;> split <;> simp [app, numB_length] <;> omega
  obtain ⟨p, l, c, bs, g, g1, g2, st⟩ := Ro.op st.up2
  have fin : ∀ {h' : Heap} {o1 : OB} {x : Bytes}, x.length ≤ 30000 → app o1 (some x) = app o (encG m.sg) → St h0 h' (Ro b (app o1 (some x)) (N + x.length) :: own 1 p8 l9 c10 (bcs ((encG m.sg).getD [])) :: pts b0 0 false cs :: F) → Ded h0 F b (N + 30000) (app o (encG m.sg)) unit h' :=
    fun hl he s => ⟨rfl, by rw [he] at s; exact Ro.mono s.up1.drop.up1.drop (by omega)⟩
  refine ⟨g, st.cell0 (i := 1) rfl, ?_⟩
  rw [br_and]
  refine ⟨fun ht => st.store0 (i := 1) (by simp) rfl fun h15 st => ⟨_, _, _, st.cell0 (i := 0) rfl, ?_⟩, fun ht => st.store0 (i := 1) (by simp) rfl fun h15 st => ⟨_, _, _, st.cell0 (i := 0) rfl, ?_⟩⟩
  · simp only [List.set_cons_succ, List.set_cons_zero] at st
    cases hG : encG m.sg with
    | none =>
      rw [hG] at st hrd hgl fin
      refine ro_append (o := none) (N := N) (x := []) st (by
        have := rd_own st.up2.at
        exact this) rfl g1 rfl (by omega) (by simp) fun h' s => fin (by simp) (by rw [none_app, app_none]) s
    | some x =>
      rw [hG] at st hrd hgl fin
      refine ro_append (o := o) (N := N) (x := x) st (by
        have := rd_own st.up2.at
        exact this) rfl g1 (by rw [ht] at g2; exact g2) (by omega) (by simp at hgl; omega) fun h' s => fin (by simpa using hgl) rfl s
  · have ho : o = none := by
      cases o with
      | none => rfl
      | some y => have : g = true ∧ bs = y := g2; rw [ht] at this; cases this.1
    simp only [List.set_cons_succ, List.set_cons_zero] at st
    refine ro_append (o := none) (N := N) (x := (encG m.sg).getD []) st (by
      have := rd_own st.up2.at
      exact this) rfl g1 rfl (by omega) (by omega) fun h' s => fin hgl (by rw [ho, none_app, none_app]) s
def hasK (k : Int) : List Bool := if k = 1 then [true, true, true, false, false] else if k = 2 then [true, true, true, true, false] else if k = 3 then [true, true, true, true, true] else if k = 4 then [true, true, true, true, true] else if k = 6 then [true, true, false, true, true] else [true, true, false, false, false]
theorem numbers_ok (k : Int) : CallsH Tryz.prog n_ref18_Numbers #[.int .i64 k] h fun v h' => v = .agg ((hasK k).map Value.bool).toArray ∧ Ext h h' := by
  refine C_ref18_Numbers k ?_
  unfold F_ref18_Numbers hasK
  refine (St.start h).newBlk fun b0 h1 _ st _ => ?_
  have fin : ∀ (bs : List Bool), bs.length = 5 → storeP (some 5) h1 (Addr.mk b0 0 none) (.agg (bs.map Value.bool).toArray) fun h2 => ∃ cs3 : Array Value, row h2 (Addr.mk b0 0 none) 5 = some cs3 ∧ (Value.agg cs3 = .agg (bs.map Value.bool).toArray ∧ Ext h h2) := fun bs hl =>
    st.storeAll (by simp) (by simp [hl]) (one_list fun v hv => by obtain ⟨t, _, rfl⟩ := List.mem_map.1 hv; rfl) fun h2 st => ⟨_, st.row0 (by simp [hl]), by simp, st.ext⟩
  rw [br_beq]
  refine ⟨fun e => by rw [if_pos e]; exact fin [true, true, true, false, false] rfl, fun n1 => ?_⟩
  rw [if_neg n1, br_beq]
  refine ⟨fun e => by rw [if_pos e]; exact fin [true, true, true, true, false] rfl, fun n1 => ?_⟩
  rw [if_neg n1, br_beq]
  refine ⟨fun e => by rw [if_pos e]; exact fin [true, true, true, true, true] rfl, fun n1 => ?_⟩
  rw [if_neg n1, br_beq]
  refine ⟨fun e => by rw [if_pos e]; exact fin [true, true, true, true, true] rfl, fun n1 => ?_⟩
  rw [if_neg n1, br_beq]
  refine ⟨fun e => by rw [if_pos e]; exact fin [true, true, false, true, true] rfl, fun n1 => ?_⟩
  rw [if_neg n1]
  exact fin [true, true, false, false, false] rfl
end
end Go.Proofs.YthlmiijlhiiccaaGreat
