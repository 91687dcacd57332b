/- Layer 8: SlotWhole. -/
import Derived.Test.Ytkeggnfffnodmaa8i
import Derived.Test.YtkeggnfffnodmaaFi
set_option linter.unusedVariables false
set_option maxRecDepth 100000
namespace Go.Proofs.Ytkeggnfffnodmaa
open Go Go.Vc Go.Proofs
theorem newD_base : Base (newD 5).lasts 0 [] := ⟨by simp, fun _ => ⟨rfl, rfl, torn_zero⟩, fun h => by omega⟩
theorem slotWhole_ok {h : Heap} {p : Option Addr} {l c : Nat} {os : List OpT} (hf : OpTs h p l os) : CallsH Try.prog n_law08_SlotWhole #[.slice p l c] h fun v h' => v = .bool true ∧ Ext h h' := by
  refine R.C_law08_SlotWhole p l c ?_
  unfold R.F_law08_SlotWhole
  have hlen := hf.len
  refine ⟨fun _ h' => os.length ≤ 50 ∧ St h h' [], ?_, ?_⟩
  · refine (awake8_ok h).mono fun v h1 ⟨hv, e1⟩ => ⟨e1, true, hv, br_no rfl ?_⟩
    have s := (St.start h).keep e1
    refine (few8_ok (hf.ext s.ext) 50).mono fun v h7 ⟨⟨t, hv, ht⟩, hh⟩ => ?_
    subst hh
    refine ⟨Ext.refl _, t, hv, ?_⟩
    cases t
    · exact br_yes rfl (awake8_end s)
    · exact br_no rfl ⟨ht rfl, s⟩
  rintro _ h14 ⟨hfew, s⟩
  refine (new_ok h14 5 (by omega)).mono fun v h16 ⟨d, hv, nw⟩ => ⟨nw.ext, some (Addr.mk d 0 none), 0, hv, ?_⟩
  have s := s.join nw
  simp only [List.cons_append, List.nil_append] at s
  refine s.newBlk fun b19 h20 _ s _ => ?_
  have s : St h h20 [own 1 (some (Addr.mk b19 0 none)) 1 1 [Value.slice none 0 0], Dv d (newD 5)] := s.impl fun m q => ⟨rfl, Nat.le_refl _, by unfold maxLen; omega, .inr ⟨b19, 0, [], rfl, rfl, q⟩⟩
  have s := (((s.rdNil 1).rdsOf (xs := []) (Nat.le_refl 0))).up1
  refine ⟨fun st h' => ∃ (k c : Nat) (D : Dev) (v : List UInt8) (S : List Pg), st.2 = k ∧ k ≤ l ∧ c ≤ 2 * k ∧ D.queue.length ≤ 2 * k ∧ Inv D c v (rL S) ∧ S.length ≤ k + 1 ∧ St h h' [own 1 st.1.1 st.1.2.1 st.1.2.2 (S.map (·.1.v)), rds S, Dv d D], fun st _ => ((l : Int) - st.2).toNat,
    ⟨0, 0, newD 5, [], [((none, 0, 0), [])], rfl, Nat.zero_le _, Nat.le_refl _, Nat.le_refl _, ⟨newD_wf (by omega), newD_base, by simp [rL], .inl (fun w hw => by cases hw), by simp [rL]⟩, Nat.le_refl _, s⟩, ?_⟩
  clear s
  rintro ⟨⟨sp, sl, sc⟩, i⟩ h24 ⟨k, c, D, v, S, rfl, hk, hck, hq, inv, hSk, s⟩
  dsimp only at *
  rw [br_decide]
  refine ⟨fun hlt => ⟨by omega, hlt, ?_⟩, fun hge => ⟨rfl, s.ext⟩⟩
  obtain ⟨b, o, q, ql, qc, lp, ll, lc, h2, rfl, hb, hl, hi1, _, _, _, hrow, hqc⟩ := hf.get (i := k) (by omega)
  simp only [deref_some, add_mk, Int.toNat_natCast, Nat.zero_add, Nat.add_zero]
  refine ⟨_, row_ext8 s.ext hrow, s.newBlk fun b27 h28 _ s _ => s.storeAll (by simp) (by simp) (by
    intro v hv
    simp at hv
    rcases hv with h | h | h | h | h <;> subst h <;> rfl) fun h29 s => ?_⟩
  generalize os[k] = op at *
  rw [wrap_i64 (by omega) (by omega)]
  refine ⟨fun st h' => ∃ (c : Nat) (D : Dev) (v : List UInt8) (S : List Pg), c ≤ 2 * k + 1 ∧ D.queue.length ≤ 2 * k + 1 ∧ Inv D c v (rL S) ∧ S.length ≤ k + 2 ∧ St h h' [pts b27 0 false [.int .i64 op.k, .int .i64 op.i, .int .i64 op.a, .slice q ql qc, .slice lp ll lc], own 1 st.1 st.2.1 st.2.2 (S.map (·.1.v)), rds S, Dv d D], ?_, ?_⟩
  · refine ⟨_, s.cell0 (i := 0) rfl, ?_⟩
    have stay := fun (_ : Unit) => (⟨c, D, v, S, by omega, by omega, inv, by omega, s⟩ : ∃ (c : Nat) (D : Dev) (v : List UInt8) (S : List Pg), c ≤ 2 * k + 1 ∧ D.queue.length ≤ 2 * k + 1 ∧ Inv D c v (rL S) ∧ S.length ≤ k + 2 ∧ St h h29 [pts b27 0 false [.int .i64 op.k, .int .i64 op.i, .int .i64 op.a, .slice q ql qc, .slice lp ll lc], own 1 sp sl sc (S.map (·.1.v)), rds S, Dv d D])
    rw [br_beq]
    refine ⟨fun e1 => ⟨_, _, _, s.cell0 (i := 3) rfl, ?_⟩, fun e1 => stay ()⟩
    have hbl := hb.1
    rw [br_decide]
    refine ⟨fun hle => ⟨_, _, _, s.cell0 (i := 3) rfl, ?_⟩, fun hgt => stay ()⟩
    refine (save_ok (at_ := 2) ((s.old hb.2).up4) inv.wf (by omega) (by omega) (by omega)).mono fun v38 h39 ⟨hv, s⟩ => ⟨_, _, hv, ?_⟩
    have hsq := saveD_q (D := D) 2 op.b
    have hinv := inv.save (x := op.b) (by omega) (by omega)
    generalize saveD D 2 op.b = SD at *
    refine ⟨fun st h' => ∃ (c : Nat) (v : List UInt8) (S : List Pg), c ≤ 2 * k + 1 ∧ Inv SD.2 c v (rL S ++ [op.b]) ∧ S.length ≤ k + 1 ∧ St h h' [Dv d SD.2, rdo 1 q ql (bcs op.b), pts b27 0 false [.int .i64 op.k, .int .i64 op.i, .int .i64 op.a, .slice q ql qc, .slice lp ll lc], own 1 st.1 st.2.1 st.2.2 (S.map (·.1.v)), rds S], ?_, ?_⟩
    · rw [br_beq]
      refine ⟨fun h0 => ?_, fun h0 => ?_⟩
      · rcases hinv with ⟨_, hi⟩ | ⟨hne, _⟩
        · refine ⟨c + 1, op.b, [], by omega, hi, Nat.zero_le _, ?_⟩
          exact ((((s.up4.rdsSub (T := []) fun e he => by cases he)).up4.drop.nil 1).up4.up4.up4)
        · exact absurd h0 hne
      · rcases hinv with ⟨he, _⟩ | ⟨_, hi⟩
        · exact absurd he h0
        · exact ⟨c, v, S, by omega, hi, hSk, s⟩
    · clear s stay
      rintro ⟨tp, tl, tc⟩ h44 ⟨c', v', S', hc', hi, hS', s⟩
      dsimp only at *
      refine ⟨_, _, _, s.up2.cell0 (i := 3) rfl, s.newBlk fun b48 h49 _ s _ => ?_⟩
      have htl := s.up4.len.1
      refine St.append (xs := [Sl.v (q, ql, qc)]) s.up4 ⟨rfl, by simp only [src, Nat.one_mul]; exact s.row0 rfl⟩ (by intro v hv; simp only [List.mem_singleton] at hv; subst hv; rfl) rfl (by simp at htl; omega) (by simp at htl; unfold maxLen; omega) fun p50 c52 h53 s _ => ?_
      refine ⟨c', SD.2, v', S' ++ [((q, ql, qc), op.b)], hc', by omega, by simpa [rL] using hi, by simp; omega, ?_⟩
      simp only [List.map_append, List.map_cons, List.map_nil]
      have s := (((s.up1.drop.up2.rdsOf hqc).up4.rdsJoin).up3.up2.up1)
      exact s
  clear s
  rintro ⟨tp, tl, tc⟩ h55 ⟨c2, D2, v2, S2, hc2, hq2, inv2, hS2, s⟩
  dsimp only at *
  refine ⟨fun _ h' => ∃ D : Dev, D.queue.length ≤ 2 * k + 2 ∧ Inv D c2 v2 (rL S2) ∧ St h h' [pts b27 0 false [.int .i64 op.k, .int .i64 op.i, .int .i64 op.a, .slice q ql qc, .slice lp ll lc], own 1 tp tl tc (S2.map (·.1.v)), rds S2, Dv d D], ?_, ?_⟩
  · refine ⟨_, s.cell0 (i := 0) rfl, ?_⟩
    have stay : ∃ D : Dev, D.queue.length ≤ 2 * k + 2 ∧ Inv D c2 v2 (rL S2) ∧ St h h55 [pts b27 0 false [.int .i64 op.k, .int .i64 op.i, .int .i64 op.a, .slice q ql qc, .slice lp ll lc], own 1 tp tl tc (S2.map (·.1.v)), rds S2, Dv d D] := ⟨D2, by omega, inv2, s⟩
    rw [br_beq]
    refine ⟨fun e2 => ⟨_, s.cell0 (i := 1) rfl, ?_⟩, fun e2 => stay⟩
    rw [br_bne]
    refine ⟨fun n2 => ⟨_, s.cell0 (i := 1) rfl, ?_⟩, fun _ => stay⟩
    rw [br_bne]
    refine ⟨fun n3 => ⟨_, s.cell0 (i := 1) rfl, _, _, _, s.cell0 (i := 3) rfl, ?_⟩, fun _ => stay⟩
    refine (write_ok ((s.old hb.2).up4) inv2.wf op.i (by omega)).mono fun v h65 ⟨hv, s⟩ => ⟨_, hv, (writeD D2 op.i op.b).2, ?_, inv2.write (xs := op.b) n2 n3, ?_⟩
    · have := writeD_q (D := D2) op.i op.b; omega
    · have s := s.up1.drop
      exact s.dn3
  clear s
  rintro _ h68 ⟨D3, hq3, inv3, s⟩
  refine ⟨fun _ h' => ∃ D : Dev, D.queue.length ≤ 2 * k + 2 ∧ Inv D c2 v2 (rL S2) ∧ St h h' [pts b27 0 false [.int .i64 op.k, .int .i64 op.i, .int .i64 op.a, .slice q ql qc, .slice lp ll lc], own 1 tp tl tc (S2.map (·.1.v)), rds S2, Dv d D], ?_, ?_⟩
  · refine ⟨_, s.cell0 (i := 0) rfl, ?_⟩
    rw [br_beq]
    refine ⟨fun e3 => ⟨_, s.cell0 (i := 1) rfl, ?_⟩, fun _ => ⟨D3, hq3, inv3, s⟩⟩
    refine (setFuse_ok s.up3 op.i).mono fun v h73 ⟨hv, s⟩ => ⟨hv, fuseD D3 op.i, hq3, inv3.fuse hi1, s.dn3⟩
  clear s
  rintro _ h75 ⟨D4, hq4, inv4, s⟩
  refine ⟨_, s.cell0 (i := 0) rfl, ?_⟩
  rw [br_bne]
  refine ⟨fun _ => ⟨⟨k + 1, c2, D4, v2, S2, by omega, by omega, by omega, by omega, inv4, hS2, s.drop⟩, by omega⟩, fun e4 => ⟨_, _, _, s.cell0 (i := 4) rfl, ?_⟩⟩
  refine (restart_ok ((s.old hl).up4) inv4.wf (by omega)).mono fun v h81 ⟨hv, s⟩ => ⟨hv, ?_⟩
  obtain ⟨c5, v5, hc5, hm5, inv5, hld⟩ := inv4.restart (by omega) op.list
  have hqr : (restartD D4 op.list).queue.length = 0 := rfl
  generalize restartD D4 op.list = D5 at *
  refine (load_ok (at_ := 2) s.at inv5.wf (by omega) (by omega)).mono fun v h83 ⟨p85, l86, c87, hv, nw⟩ => ?_
  rw [hld] at hv nw
  refine ⟨nw.ext, ((c5 : Nat) : Int), p85, l86, c87, 0, hv, ?_⟩
  dsimp only at nw
  have s := s.join nw
  simp only [List.cons_append, List.nil_append] at s
  have s := (s.up2.drop.up2.drop).up2
  have htl := s.len.1
  simp only [List.length_map, Nat.mul_one] at htl
  refine ⟨fun t h' => t = true ∧ St h h' [own 1 p85 l86 c87 (bcs v5), Dv d D5], ⟨fun st h' => ∃ m : Nat, st.2 = m ∧ m ≤ tl ∧ (st.1 = true ∨ ∀ i (hi : i < S2.length), i < m → S2[i].2 ≠ v5) ∧ St h h' [own 1 tp tl tc (S2.map (·.1.v)), own 1 p85 l86 c87 (bcs v5), Dv d D5, rds S2], fun st _ => ((tl : Int) - st.2).toNat, ⟨0, rfl, Nat.zero_le _, .inr fun i hi h => by omega, s⟩, ?_⟩, ?_⟩
  · clear s
    rintro ⟨t, j⟩ h93 ⟨m, rfl, hm, hno, s⟩
    dsimp only at *
    rw [br_decide]
    refine ⟨fun hltm => ?_, fun hge => ⟨?_, s.drop.up2.drop⟩⟩
    · rw [wrap_i64 (by omega) (by omega)]
      cases t
      · refine br_no rfl ⟨by omega, hltm, ?_⟩
        have hms : m < S2.length := by omega
        obtain ⟨a, rfl, hc⟩ := (rd_own s.at).cell (i := m) (by simpa using hms)
        rw [List.getElem_map] at hc
        simp only [deref_some, Int.toNat_natCast, Nat.mul_one]
        refine ⟨_, _, _, hc, ?_⟩
        have hb1 := rds_get s.up3.at (e := S2[m]) (List.getElem_mem _)
        have hb2 := bs_own s.up1.at
        have hsm : S2[m].2.length ≤ 110 := inv4.small _ (List.mem_map.2 ⟨_, List.getElem_mem _, rfl⟩)
        refine (same_ok hb1 hb2 (by have := hb1.1; omega)).mono fun v h99 ⟨hv, hh⟩ => ?_
        subst hh
        refine ⟨Ext.refl _, _, hv, ⟨m + 1, by omega, by omega, ?_, s⟩, by omega⟩
        by_cases he : S2[m].2 = v5
        · exact .inl (by rw [decide_eq_true he])
        · refine .inr fun i hi him => ?_
          by_cases hie : i = m
          · subst hie; exact he
          · rcases hno with h | h
            · cases h
            · exact h i hi (by omega)
      · exact br_yes rfl ⟨⟨m + 1, by omega, by omega, .inl rfl, s⟩, by omega⟩
    · rcases hno with h | h
      · exact h
      · exfalso
        obtain ⟨e, he, hev⟩ := List.mem_map.1 hm5
        obtain ⟨i, hi, rfl⟩ := List.mem_iff_getElem.1 he
        exact h i hi (by omega) hev
  · clear s
    rintro t h102 ⟨rfl, s⟩
    refine br_no rfl (br_no rfl (s.newBlk fun b103 h104 _ s _ => ⟨⟨k + 1, c5, D5, v5, [((p85, l86, c87), v5)], by omega, by omega, by omega, by omega, inv5, by simp, ?_⟩, by omega⟩))
    have s : St h h104 [own 1 (some (Addr.mk b103 0 none)) 1 1 [Value.slice p85 l86 c87], own 1 p85 l86 c87 (bcs v5), Dv d D5] := s.impl fun m q => ⟨rfl, Nat.le_refl _, by unfold maxLen; omega, .inr ⟨b103, 0, [], rfl, rfl, q⟩⟩
    exact (s.up1.rdsOwn).up1
end Go.Proofs.Ytkeggnfffnodmaa
