/- Layer 18: Decode. -/
import Derived.Test.YthlmiijlhiiccaaGreatdf
set_option linter.unusedVariables false
set_option linter.unusedSimpArgs false
set_option maxRecDepth 100000
namespace Go.Proofs.YthlmiijlhiiccaaGreat
open Go Go.Vc Go.Proofs Go.Vc.Keys
section
variable {h0 h : Heap} {F : List HP} {rb xb mb : Nat} {bs : Bytes} {f : Bool}
theorem zero_ones : ones (zeroC msS) := rdb_ones (h := #[]) (rdb_zero msS)
theorem msR_zero (k : Int) (hk : I64 k) : MsR h (.int .i64 k :: (zeroC msS).drop 1) { zeroMs with kind := k } := by
  have h0' : I64 (0 : Int) := by unfold I64; omega
  have sg0 : SgR h (hdC zeroSg ++ [Value.slice none 0 0]) zeroSg := sgR_mk rfl rfl ⟨h0', h0'⟩ TxtR.none
  have pr0 : PrR h (prC (.slice none 0 0) 0 zeros zeros zeroPf zeros zeros) zeroPrf := prR_mk rfl rfl pf0_ok rfl rfl h0' LsR.none
  refine ⟨rfl, rfl, rfl, rfl, rfl, rfl, rfl, rfl, ⟨_, rfl, TxtR.none⟩, ⟨_, rfl, TxtR.none⟩, sg0, ⟨_, _, rfl, LsR.none, LsR.none⟩, ⟨_, _, rfl, LsR.none, LsR.none⟩, rfl, rfl, pr0, ⟨_, rfl, LsR.none⟩, ⟨_, rfl, LsR.none⟩, ⟨_, rfl, LsR.none⟩, ⟨_, rfl, LsR.none⟩, ⟨hk, h0', h0', h0', h0', h0', h0'⟩, ?_⟩
  exact ones_cons rfl fun v hv => zero_ones v (List.mem_of_mem_drop hv)
theorem decF_kind (m : Ms) (i : Nat) (bs : Bytes) (f : Bool) : (decF m i bs f).1.kind = m.kind := by
  rcases i with _ | _ | _ | _ | _ | _ | _ | _ | _ | _ | _ | _ | _ | _ | _ | _ | _ | i <;> rfl
theorem fieldsK_lt (k : Int) : ∀ i ∈ fieldsK k, i < 17 := by
  unfold fieldsK
  intro i hi
  repeat' split at hi
  all_goals simp at hi
  all_goals omega
/-- What is decoded. -/
def DRes (b : Bytes) (v : Value) (h : Heap) : Prop := ∃ cs : List Value, v = .tuple #[.agg cs.toArray, .int .i64 (if (decM b).isSome then 0 else 2)] ∧ MsR h cs ((decM b).getD zeroMs)
theorem decode18_ok {p : Option Addr} {l c : Nat} {b : Bytes} (hx : Bs h p l b) (hl : l ≤ 70368744177664) : CallsH Tryz.prog n_message_Decode #[.slice p l c] h fun v h' => Ext h h' ∧ DRes b v h' := by
  refine C_message_Decode p l c ?_
  unfold F_message_Decode
  refine (St.start h).newBlk fun b0 h1 _ st _ => ?_
  have st : St h h1 [pts b0 0 false (zeroC msS)] := st
  refine (rdr_ok (hx.ext st.ext) hl).mono fun v h3 ⟨r, hv, nw⟩ => ⟨nw.ext, _, hv, ?_⟩
  have st := st.join nw
  have st : St h h3 [W r b false, pts b0 0 false (zeroC msS)] := st
  refine st.newBlk fun b5 h6 _ st _ => ?_
  have st : St h h6 [pts b5 0 false [ptr r], W r b false, pts b0 0 false (zeroC msS)] := st
  simp only [add_mk, Nat.zero_add]
  refine ⟨_, st.cell0 (i := 0) rfl, (rU8_ok st.up1).mono fun v h9 ⟨hv, st⟩ => ⟨_, hv, ?_⟩⟩
  have hn := numR_lt b false 1
  have hI : I64 ((numR b false 1).1 : Int) := by unfold I64; omega
  have hD : decM b = if fieldsK (numR b false 1).1 = [] then none
    else if (decFs (fieldsK (numR b false 1).1) { zeroMs with kind := (numR b false 1).1 } (numR b false 1).2.1 (numR b false 1).2.2).2 = ([], false)
      then some (decFs (fieldsK (numR b false 1).1) { zeroMs with kind := (numR b false 1).1 } (numR b false 1).2.1 (numR b false 1).2.2).1 else none := rfl
  generalize numR b false 1 = r0 at *
  refine st.newBlk fun b11 h12 _ st _ => ?_
  have hzl : (Value.int .i64 (r0.1 : Int) :: (zeroC msS).drop 1).length = 279 := rfl
  refine st.storeAll (cs := (Value.int .i64 (r0.1 : Int) :: (zeroC msS).drop 1).toArray) rfl rfl (one_list (ones_cons rfl fun v hv => zero_ones v (List.mem_of_mem_drop hv))) fun h13 st => ?_
  have st : St h h13 [pts b11 0 false (.int .i64 (r0.1 : Int) :: (zeroC msS).drop 1), W r r0.2.1 r0.2.2, pts b5 0 false [ptr r], pts b0 0 false (zeroC msS)] := st
  refine ⟨_, st.cell0 (i := 0) rfl, (fields_ok r0.1).mono fun v h16 ⟨p, l, c, hv, hp, nw⟩ => ⟨nw.ext, p, l, c, hv, ?_⟩⟩
  have st := st.join nw
  simp only [List.cons_append, List.nil_append] at st
  -- nothing is decoded
  have bad : ∀ {h' : Heap} {G : List HP}, decM b = none → St h h' (pts b0 0 false (zeroC msS) :: G) → Vc.storeP (some 279) h' (Addr.mk b0 0 none) (.agg (zeroC msS).toArray) fun h20 => ∃ cs21 : Array Value, row h20 (Addr.mk b0 0 none) 279 = some cs21 ∧ (Ext h h20 ∧ DRes b (.tuple #[.agg cs21, .int .i64 2]) h20) := by
    intro h' G hd st
    refine ret18 (l := zeroC msS) (K := fun cs21 h20 => Ext h h20 ∧ DRes b (.tuple #[.agg cs21, .int .i64 2]) h20) st rfl rfl zero_ones fun h20 st => ⟨st.ext, zeroC msS, ?_, ?_⟩
    · rw [hd]; rfl
    · rw [hd]
      exact msR_zero 0 (by unfold I64; omega)
  by_cases hne : fieldsK r0.1 = []
  · rw [if_pos hne] at hD
    refine br_yes (by rw [hp.2 hne]; rfl) ?_
    exact bad hD st.up4
  rw [if_neg hne] at hD
  refine br_no (by cases hq : p with | none => exact absurd (hp.1 hq) hne | some a => rfl) ?_
  have hfl : (fieldsK r0.1).length = l := by have := st.len.1; simpa [fldC] using this
  have hll := st.len.2
  -- all is told at the end
  have good : ∀ {h' : Heap} {cs : List Value} {m : Ms} {bs' : Bytes} {f' : Bool} {G : List HP}, decFs (fieldsK r0.1) { zeroMs with kind := r0.1 } r0.2.1 r0.2.2 = (m, bs', f') →
      St h h' (W r bs' f' :: pts b5 0 false [ptr r] :: pts b11 0 false cs :: kn (fun h => MsR h cs m) :: pts b0 0 false (zeroC msS) :: G) →
      CallsH Tryz.prog n_wire_Reader_Done #[ptr r] h' fun v33 h34 => Ext h' h34 ∧ ∃ t35, v33 = .bool t35 ∧ br (!t35)
        (Vc.storeP (some 279) h34 (Addr.mk b0 0 none) (.agg (zeroC msS).toArray) fun h36 => ∃ cs37 : Array Value, row h36 (Addr.mk b0 0 none) 279 = some cs37 ∧ (Ext h h36 ∧ DRes b (.tuple #[.agg cs37, .int .i64 2]) h36))
        (∃ cs38 : Array Value, row h34 (Addr.mk b11 0 none) 279 = some cs38 ∧ Vc.storeP (some 279) h34 (Addr.mk b0 0 none) (.agg cs38) fun h39 => ∃ cs40 : Array Value, row h39 (Addr.mk b0 0 none) 279 = some cs40 ∧ (Ext h h39 ∧ DRes b (.tuple #[.agg cs40, .int .i64 0]) h39)) := by
    intro h' cs m bs' f' G hdec st
    refine (done_ok st.at).mono fun v h34 ⟨hv, hh⟩ => ?_
    subst hh
    refine ⟨Ext.refl _, _, hv, ?_⟩
    rw [hdec] at hD
    by_cases hf : f' = false ∧ bs' = []
    · obtain ⟨rfl, rfl⟩ := hf
      rw [if_pos rfl] at hD
      refine br_no rfl ?_
      have hm := (st.up3).known
      refine ⟨_, st.up2.row0 hm.len, ?_⟩
      refine ret18 (l := cs) (K := fun cs40 h39 => Ext h h39 ∧ DRes b (.tuple #[.agg cs40, .int .i64 0]) h39) st.up4 rfl hm.len hm.ones fun h39 st => ⟨st.ext, cs, ?_, ?_⟩
      · rw [hD]; rfl
      · rw [hD]
        exact (st.up3).known
    · rw [decide_eq_false hf]
      have hd : decM b = none := by
        rw [hD, if_neg]
        intro e
        simp only [Prod.mk.injEq] at e
        exact hf ⟨e.2, e.1⟩
      exact br_yes rfl (bad hd st.up4)
  refine ⟨fun n h' => ∃ (j : Nat) (cs : List Value) (m : Ms) (bs' : Bytes) (f' : Bool), n = j ∧ j ≤ l ∧ decFs ((fieldsK r0.1).drop j) m bs' f' = decFs (fieldsK r0.1) { zeroMs with kind := r0.1 } r0.2.1 r0.2.2 ∧
      St h h' [W r bs' f', pts b5 0 false [ptr r], pts b11 0 false cs, kn (fun h => MsR h cs m), pts b0 0 false (zeroC msS), own 1 p l c (fldC (fieldsK r0.1))], fun n _ => ((l : Int) - n).toNat,
    ⟨0, .int .i64 (r0.1 : Int) :: (zeroC msS).drop 1, { zeroMs with kind := r0.1 }, _, _, rfl, Nat.zero_le _, by rw [List.drop_zero], ?_⟩, ?_⟩
  · have s1 := (st.knAdd (φ := fun h => MsR h (.int .i64 (r0.1 : Int) :: (zeroC msS).drop 1) { zeroMs with kind := r0.1 }) fun h => msR_zero _ hI)
    exact s1.up1.up5.up2.up3.up5.up5
  clear st
  rintro n h25 ⟨j, cs, m, bs', f', rfl, hj, hdec, st⟩
  rw [br_decide]
  refine ⟨fun hlt => ⟨by omega, hlt, ?_⟩, fun hge => ?_⟩
  · have hjf : j < (fieldsK r0.1).length := by omega
    obtain ⟨a, rfl, hc⟩ := (rd_own st.up5.at).cell (i := j) (by simpa [fldC] using hjf)
    simp only [deref_some, Int.toNat_natCast, Nat.mul_one]
    have hc' : cell h25 (a.add j) = some (.int .i64 ((fieldsK r0.1)[j] : Int)) := by rw [hc]; simp [fldC]
    have hm := (st.up3).known
    refine ⟨_, hc', _, st.up2.row0 hm.len, (stops_ok hm.kind hm.err _).mono fun v h30 ⟨hv, e⟩ => ⟨e, _, hv, ?_⟩⟩
    have st := st.keep e
    rw [List.drop_eq_getElem_cons hjf, decFs] at hdec
    simp only at hdec
    cases hs : stopsM m (fieldsK r0.1)[j] with
    | true =>
      rw [if_pos hs] at hdec
      exact br_yes rfl ⟨_, st.up1.cell0 (i := 0) rfl, good hdec.symm st⟩
    | false =>
      rw [if_neg (by rw [hs]; simp)] at hdec
      refine br_no rfl ((dfield_ok _ (fieldsK_lt _ _ (List.getElem_mem hjf)) st).mono fun v h42 ⟨hv, cs', st⟩ => ⟨hv, ?_⟩)
      have hf12 := fieldsK_le (r0.1 : Int)
      rw [wrap_i64 (by omega) (by omega)]
      exact ⟨⟨j + 1, cs', _, _, _, rfl, by omega, hdec, st⟩, by show ((l : Int) - ((j : Int) + 1)).toNat < ((l : Int) - (j : Int)).toNat; omega⟩
  · obtain rfl : j = l := by omega
    rw [List.drop_of_length_le (by omega), decFs] at hdec
    exact ⟨_, st.up1.cell0 (i := 0) rfl, good hdec.symm st⟩
end
end Go.Proofs.YthlmiijlhiiccaaGreat
