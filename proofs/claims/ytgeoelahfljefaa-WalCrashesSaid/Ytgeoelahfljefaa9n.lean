/- Layer 9: WalCrashes. -/
import Derived.Test.Ytgeoelahfljefaa9m
import Derived.Test.YtgeoelahfljefaaFy
set_option linter.unusedVariables false
set_option maxRecDepth 100000
namespace Go.Proofs.Ytgeoelahfljefaa
open Go Go.Vc Go.Proofs
theorem St.five {h0 h : Heap} {A B C D E : HP} {F : List HP} (hs : St h0 h (A :: B :: C :: D :: E :: F)) : St h0 h [A, B, C, D, E] := hs.conseq fun m ⟨m1, m2, a1, a2, c1, q1, m3, m4, a3, a4, c2, q2, m5, m6, a5, a6, c3, q3, m7, m8, a7, a8, c4, q4, m9, m10, a9, a10, c5, q5, _⟩ =>
  ⟨m1, m2, a1, a2, c1, q1, m3, m4, a3, a4, c2, q2, m5, m6, a5, a6, c3, q3, m7, m8, a7, a8, c4, q4, m9, m10, a9, a10, c5, q5, trivial⟩
theorem St.four {h0 h : Heap} {A B C D : HP} {F : List HP} (hs : St h0 h (A :: B :: C :: D :: F)) : St h0 h [A, B, C, D] := hs.conseq fun m ⟨m1, m2, a1, a2, c1, q1, m3, m4, a3, a4, c2, q2, m5, m6, a5, a6, c3, q3, m7, m8, a7, a8, c4, q4, _⟩ =>
  ⟨m1, m2, a1, a2, c1, q1, m3, m4, a3, a4, c2, q2, m5, m6, a5, a6, c3, q3, m7, m8, a7, a8, c4, q4, trivial⟩
theorem walCrashes_ok {h : Heap} {p : Option Addr} {l c : Nat} {os : List OpW} (hf : OpWs h p l os) : CallsH Try.prog n_law09_WalCrashes #[.slice p l c] h fun v h' => v = .bool true ∧ Ext h h' := by
  refine C_law09_WalCrashes p l c ?_
  unfold F_law09_WalCrashes
  have hlen := hf.len
  refine ⟨fun _ h' => os.length ≤ 40 ∧ St h h' [], ?_, ?_⟩
  · refine (awake9_ok h).mono fun v h1 ⟨hv, e1⟩ => ⟨e1, true, hv, br_no rfl ?_⟩
    have s := (St.start h).keep e1
    refine (few9_ok (hf.ext s.ext) 40).mono fun v h7 ⟨⟨t, hv, ht⟩, hh⟩ => ?_
    subst hh
    refine ⟨Ext.refl _, t, hv, ?_⟩
    cases t
    · exact br_yes rfl (awake9_end s)
    · exact br_no rfl ⟨ht rfl, s⟩
  rintro _ h14 ⟨hfew, s⟩
  refine (new_ok h14 60 (by omega)).mono fun v h16 ⟨d, hv, nw⟩ => ⟨nw.ext, some (Addr.mk d 0 none), 0, hv, ?_⟩
  have s := s.join nw
  simp only [List.cons_append, List.nil_append] at s
  refine (open_ok s.at (newD_wf (n := 60) (by omega)) rfl (start := 3) (count := 50) (least := 1) (gen := 1) (by omega) (by omega) (by omega) (by omega)).mono fun v h20 ⟨lb0, p22, l23, c24, S1, hv, hS1, nw2⟩ => ⟨nw2.ext, _, p22, l23, c24, 0, hv, ?_⟩
  rw [scan_new (by omega)] at nw2
  have s := s.join nw2
  simp only [List.cons_append, List.nil_append] at s
  have s := St.two (s.up3.up1)
  have s := s.rdsNil.nil 1
  have s : St h h20 [Lv lb0 ⟨d, 3, 50, 1, 0, false⟩, Dv d (newD 60), own 1 none 0 0 [], rds []] := s.up3.up3
  refine ⟨fun st h' => ∃ (k lb : Nat) (D : Dev) (L : Lg) (T : List Pg) (sure : Nat), st.1 = some (Addr.mk lb 0 none) ∧ st.2.2.2.2 = k ∧ k ≤ l ∧ st.2.2.1 = sure ∧ st.2.2.2.1 = L.gen ∧ L.d = d ∧ L.start = 3 ∧ L.count = 50 ∧ L.gen ≤ k + 1 ∧ T.length ≤ k ∧ D.queue.length ≤ 60 * k ∧ CrI D L 60 1 (rL T) sure ∧
      St h h' [Lv lb L, Dv L.d D, own 1 st.2.1.1 st.2.1.2.1 st.2.1.2.2 (T.map (·.1.v)), rds T], fun st _ => ((l : Int) - st.2.2.2.2).toNat,
    ⟨0, lb0, newD 60, ⟨d, 3, 50, 1, 0, false⟩, [], 0, rfl, rfl, Nat.zero_le _, rfl, rfl, rfl, rfl, rfl, Nat.le_refl _, Nat.le_refl _, Nat.le_refl _, cri_new (by omega) (by omega), s⟩, ?_⟩
  clear s
  rintro ⟨lp', ⟨ap, al, ac⟩, sure', g', i⟩ h29 ⟨k, lb, D, L, T, sure, rfl, rfl, hk, rfl, rfl, hLd, hLs, hLc, hg, hT, hq, inv, s⟩
  dsimp only at *
  rw [br_decide]
  refine ⟨fun hlt => ⟨by omega, hlt, ?_⟩, fun hge => ⟨rfl, s.ext⟩⟩
  obtain ⟨b, o, q, ql, qc, lp, ll, lc, h2, rfl, hqc, hb, hl, hi1, _, _, _, hrow⟩ := hf.get (i := k) (by omega)
  simp only [deref_some, add_mk, Int.toNat_natCast, Nat.zero_add, Nat.add_zero]
  refine ⟨_, src_ext s.ext (p := some _) hrow, s.newBlk fun b32 h33 _ s _ => s.storeAll (by simp) (by simp) (one_part' _ _ _ _ _ _ _ _) fun h34 s => ?_⟩
  generalize os[k] = op at *
  rw [wrap_i64 (n := (k : Int) + 1) (by omega) (by omega)]
  have hTl := s.up3.len.1
  simp only [List.length_map, Nat.mul_one] at hTl
  refine ⟨fun st h' => ∃ (D : Dev) (L' : Lg) (T : List Pg), L'.d = d ∧ L'.start = 3 ∧ L'.count = 50 ∧ L'.gen = L.gen ∧ T.length ≤ k + 1 ∧ D.queue.length ≤ 60 * k + 55 ∧ CrI D L' 60 1 (rL T) sure ∧
      St h h' [pts b32 0 false [.int .i64 op.k, .int .i64 op.i, .slice q ql qc, .slice lp ll lc], Lv lb L', Dv L'.d D, own 1 st.1 st.2.1 st.2.2 (T.map (·.1.v)), rds T], ?_, ?_⟩
  · refine ⟨_, s.cell0 (i := 0) rfl, ?_⟩
    have stay : ∃ (D : Dev) (L' : Lg) (T : List Pg), L'.d = d ∧ L'.start = 3 ∧ L'.count = 50 ∧ L'.gen = L.gen ∧ T.length ≤ k + 1 ∧ D.queue.length ≤ 60 * k + 55 ∧ CrI D L' 60 1 (rL T) sure ∧
      St h h34 [pts b32 0 false [.int .i64 op.k, .int .i64 op.i, .slice q ql qc, .slice lp ll lc], Lv lb L', Dv L'.d D, own 1 ap al ac (T.map (·.1.v)), rds T] := ⟨D, L, T, hLd, hLs, hLc, rfl, by omega, by omega, inv, s⟩
    rw [br_beq]
    refine ⟨fun e1 => ⟨_, _, _, s.cell0 (i := 2) rfl, ?_⟩, fun e1 => stay⟩
    have hbl := hb.1
    rw [br_decide]
    refine ⟨fun hle => ⟨_, _, _, s.cell0 (i := 2) rfl, ?_⟩, fun hgt => stay⟩
    clear stay
    have hlw := appendD_lwf (D := D) inv.lwf op.b
    have hqq := appendD_q L D op.b
    have hap := inv.append (b := op.b) (by omega)
    refine (append_ok (c := qc) ((s.old hb.2).up2.up3.up1) hqc (by omega) inv.wf inv.lwf (by omega)).mono fun v h44 ⟨hv, s⟩ => ⟨_, hv, ?_⟩
    rw [br_bne]
    refine ⟨fun hne => ?_, fun heq => ?_⟩
    · rcases hap with ⟨h5, _⟩ | ⟨_, inv'⟩
      · exact absurd h5 hne
      generalize (appendD L D op.b).2.2 = D' at *
      generalize (appendD L D op.b).2.1 = L' at *
      obtain ⟨hlw', hd', hs', hc', hg'⟩ := hlw
      rw [← hd'] at s
      have s := (((s.up2).rdsOf hqc).up5.rdsJoin).up4.up4.up1
      have hT' : (T ++ [((q, ql, qc), op.b)]).map (·.1.v) = T.map (·.1.v) ++ [Value.slice q ql qc] := by simp [Sl.v]
      have hR' : rL (T ++ [((q, ql, qc), op.b)]) = rL T ++ [op.b] := by simp [rL]
      have fin : ∀ {h' : Heap} {G : List HP} {p' : Option Addr} {l' c' : Nat}, St h h' (own 1 p' l' c' (T.map (·.1.v) ++ [Value.slice q ql qc]) :: pts b32 0 false [.int .i64 op.k, .int .i64 op.i, .slice q ql qc, .slice lp ll lc] :: rds (T ++ [((q, ql, qc), op.b)]) :: Lv lb L' :: Dv L'.d D' :: G) →
          ∃ (D : Dev) (L' : Lg) (T : List Pg), L'.d = d ∧ L'.start = 3 ∧ L'.count = 50 ∧ L'.gen = L.gen ∧ T.length ≤ k + 1 ∧ D.queue.length ≤ 60 * k + 55 ∧ CrI D L' 60 1 (rL T) sure ∧
            St h h' [pts b32 0 false [.int .i64 op.k, .int .i64 op.i, .slice q ql qc, .slice lp ll lc], Lv lb L', Dv L'.d D, own 1 p' l' c' (T.map (·.1.v)), rds T] := by
        intro h' G p' l' c' s
        refine ⟨D', L', T ++ [((q, ql, qc), op.b)], by omega, by omega, by omega, hg', by simp; omega, by omega, by rw [hR']; exact inv', ?_⟩
        rw [hT']
        exact (St.five s).up4.up4.up3
      have mkE : ∀ {h' : Heap} {G : List HP} {b : Nat}, St h h' (pts b 0 false [] :: G) → St h h' (own 1 (some (Addr.mk b 0 none)) 0 0 [] :: G) := fun s => s.impl fun m q => ⟨rfl, Nat.le_refl _, Nat.zero_le _, .inr ⟨_, 0, [], rfl, rfl, q⟩⟩
      have hvs : ∀ v ∈ T.map (·.1.v), v.oneCell' = true := fun v hv => by
        obtain ⟨e, _, rfl⟩ := List.mem_map.1 hv; rfl
      have hxs : ∀ v ∈ [Value.slice q ql qc], v.oneCell' = true := fun v hv => by
        simp only [List.mem_singleton] at hv; subst hv; rfl
      -- the elder list goes behind nothing
      have st1 : ∀ {h' : Heap} {G : List HP} {b : Nat} {K : Option Addr → Nat → Nat → Heap → Prop}, St h h' (own 1 (some (Addr.mk b 0 none)) 0 0 [] :: own 1 ap al ac (T.map (·.1.v)) :: G) →
          (∀ p' c' h'', St h h'' (own 1 p' (0 + al) c' (T.map (·.1.v)) :: G) → K p' (0 + al) c' h'') → appendP 34 1 24 #[Value.slice none 0 0] (some (Addr.mk b 0 none)) 0 0 ap al h' K := by
        intro h' G b K s hK
        exact St.append s (rd_own s.up1.at) hvs rfl (by omega) (by unfold maxLen; omega) fun p' c' h'' s _ => hK p' c' h'' (by simpa using s.up1.drop)
      have st2 : ∀ {h' : Heap} {G : List HP} {p' : Option Addr} {c' b : Nat} {K : Option Addr → Nat → Nat → Heap → Prop}, St h h' (own 1 p' (0 + al) c' (T.map (·.1.v)) :: pts b 0 false [Value.slice q ql qc] :: G) →
          (∀ p'' c'' h'', St h h'' (own 1 p'' (0 + al + 1) c'' (T.map (·.1.v) ++ [Value.slice q ql qc]) :: G) → K p'' (0 + al + 1) c'' h'') → appendP 34 1 24 #[Value.slice none 0 0] p' (0 + al) c' (some (Addr.mk b 0 none)) 1 h' K := by
        intro h' G p' c' b K s hK
        exact St.append s ⟨rfl, by simp only [src, Nat.one_mul]; exact s.up1.row0 rfl⟩ hxs rfl (by omega) (by unfold maxLen; omega) fun p'' c'' h'' s _ => hK p'' c'' h'' (s.up1.drop)
      refine ⟨s.newBlk fun b46 h47 _ s _ => ?_, ?_⟩
      · have s := mkE s
        refine ⟨st1 s fun p48 c50 h51 s => ⟨_, _, _, s.up1.cell0 (i := 2) rfl, s.newBlk fun b55 h56 _ s _ => st2 s.up1 fun p57 c59 h60 s => fin s⟩, _, _, _, s.up2.cell0 (i := 2) rfl, st1 s fun p64 c66 h67 s => s.newBlk fun b68 h69 _ s _ => st2 s.up1 fun p70 c72 h73 s => fin s, s.newBlk fun b74 h75 _ s _ => st1 (s.dn2) fun p76 c78 h79 s => st2 s fun p80 c82 h83 s => fin s⟩
      · refine ⟨_, _, _, s.up1.cell0 (i := 2) rfl, s.newBlk fun b87 h88 _ s _ => ?_, s.newBlk fun b109 h110 _ s _ => s.newBlk fun b111 h112 _ s _ => st1 (mkE s).up2.up1 fun p113 c115 h116 s => st2 s fun p117 c119 h120 s => fin s⟩
        have s := mkE s
        exact ⟨st1 s fun p89 c91 h92 s => s.newBlk fun b93 h94 _ s _ => st2 s.up1 fun p95 c97 h98 s => fin s, s.newBlk fun b99 h100 _ s _ => st1 s.dn2 fun p101 c103 h104 s => st2 s fun p105 c107 h108 s => fin s⟩
    · rcases hap with ⟨_, h5⟩ | ⟨h5, _⟩
      · rw [h5] at s
        exact ⟨D, L, T, hLd, hLs, hLc, rfl, by omega, by omega, inv, (s.up2.drop).up2⟩
      · exact absurd heq h5
  clear s
  rintro ⟨tp, tl, tc⟩ h122 ⟨D1, L1, T1, hd1, hs1, hc1, hg1, hT1, hq1, inv1, s⟩
  dsimp only at *
  have hT1l := s.up3.len.1
  simp only [List.length_map, Nat.mul_one] at hT1l
  refine ⟨fun sv h' => ∃ (D : Dev) (L' : Lg) (sure' : Nat), sv = sure' ∧ L'.d = d ∧ L'.start = 3 ∧ L'.count = 50 ∧ L'.gen = L.gen ∧ D.queue.length ≤ 60 * k + 55 ∧ CrI D L' 60 1 (rL T1) sure' ∧
      St h h' [pts b32 0 false [.int .i64 op.k, .int .i64 op.i, .slice q ql qc, .slice lp ll lc], Lv lb L', Dv L'.d D, own 1 tp tl tc (T1.map (·.1.v)), rds T1], ?_, ?_⟩
  · refine ⟨_, s.cell0 (i := 0) rfl, ?_⟩
    rw [br_beq]
    refine ⟨fun e2 => ?_, fun e2 => ⟨D1, L1, sure, rfl, hd1, hs1, hc1, hg1, hq1, inv1, s⟩⟩
    have hlw := flushL_lwf (D := D1) inv1.lwf
    have hqq := flushL_q L1 D1
    refine (lflush_ok s.up1.up2.up1 inv1.wf (by omega)).mono fun v h126 ⟨hv, s⟩ => ⟨_, hv, ?_⟩
    have hfl := inv1.flush
    rw [br_beq]
    refine ⟨fun h0 => ?_, fun hne => ?_⟩
    · rcases hfl with ⟨_, hl, inv'⟩ | ⟨h, _⟩
      · rw [hl] at s
        exact ⟨_, L1, (rL T1).length, by simp [rL]; omega, hd1, hs1, hc1, hg1, by omega, inv', s.up2⟩
      · exact absurd h0 h
    · rcases hfl with ⟨h, _⟩ | ⟨_, inv'⟩
      · exact absurd h hne
      · obtain ⟨_, hd', hs', hc', hg'⟩ := hlw
        rw [← hd'] at s
        exact ⟨_, _, sure, rfl, by omega, by omega, by omega, by omega, by omega, inv', s.up2⟩
  clear s
  rintro _ h129 ⟨D2, L2, sure2, rfl, hd2, hs2, hc2, hg2, hq2, inv2, s⟩
  refine ⟨fun _ h' => ∃ D : Dev, D.queue.length ≤ 60 * k + 55 ∧ CrI D L2 60 1 (rL T1) sure2 ∧
      St h h' [pts b32 0 false [.int .i64 op.k, .int .i64 op.i, .slice q ql qc, .slice lp ll lc], Lv lb L2, Dv L2.d D, own 1 tp tl tc (T1.map (·.1.v)), rds T1], ?_, ?_⟩
  · refine ⟨_, s.cell0 (i := 0) rfl, ?_⟩
    rw [br_beq]
    refine ⟨fun e3 => ⟨_, s.cell0 (i := 1) rfl, ?_⟩, fun _ => ⟨D2, hq2, inv2, s⟩⟩
    rw [← hd2]
    exact (setFuse_ok s.up2 op.i).mono fun v h134 ⟨hv, s⟩ => ⟨hv, fuseD D2 op.i, hq2, inv2.fuse hi1, s.dn2⟩
  clear s
  rintro _ h136 ⟨D3, hq3, inv3, s⟩
  refine ⟨fun _ h' => ∃ D : Dev, D.queue.length ≤ 60 * k + 56 ∧ CrI D L2 60 1 (rL T1) sure2 ∧
      St h h' [pts b32 0 false [.int .i64 op.k, .int .i64 op.i, .slice q ql qc, .slice lp ll lc], Lv lb L2, Dv L2.d D, own 1 tp tl tc (T1.map (·.1.v)), rds T1], ?_, ?_⟩
  · refine ⟨_, s.cell0 (i := 0) rfl, ?_⟩
    have stay : ∃ D : Dev, D.queue.length ≤ 60 * k + 56 ∧ CrI D L2 60 1 (rL T1) sure2 ∧
      St h h136 [pts b32 0 false [.int .i64 op.k, .int .i64 op.i, .slice q ql qc, .slice lp ll lc], Lv lb L2, Dv L2.d D, own 1 tp tl tc (T1.map (·.1.v)), rds T1] := ⟨D3, by omega, inv3, s⟩
    have wr : (op.i < 3 ∨ 52 < op.i) → CallsH Try.prog n_device_Device_Write #[.pointer (some (Addr.mk d 0 none)), .int .i64 op.i, .slice q ql qc] h136 fun v h' => ∃ n, v = .int .i64 n ∧ ∃ D : Dev, D.queue.length ≤ 60 * k + 56 ∧ CrI D L2 60 1 (rL T1) sure2 ∧
      St h h' [pts b32 0 false [.int .i64 op.k, .int .i64 op.i, .slice q ql qc, .slice lp ll lc], Lv lb L2, Dv L2.d D, own 1 tp tl tc (T1.map (·.1.v)), rds T1] := by
      intro hi
      rw [← hd2]
      have hqw := writeD_q (D := D3) op.i op.b
      refine (write_ok ((s.old hb.2).up3) inv3.wf op.i (by omega)).mono fun v h145 ⟨hv, s⟩ => ⟨_, hv, _, by omega, inv3.other (k := op.i) (xs := op.b) (by omega), ?_⟩
      exact (s.up1.drop).dn2
    rw [br_beq]
    refine ⟨fun e5 => ⟨_, s.cell0 (i := 1) rfl, ?_⟩, fun _ => stay⟩
    rw [br_decide]
    refine ⟨fun h3 => ⟨_, s.cell0 (i := 1) rfl, _, _, _, s.cell0 (i := 2) rfl, wr (.inl h3)⟩, fun h3 => ⟨_, s.cell0 (i := 1) rfl, ?_⟩⟩
    rw [br_decide]
    exact ⟨fun h52 => ⟨_, s.cell0 (i := 1) rfl, _, _, _, s.cell0 (i := 2) rfl, wr (.inr h52)⟩, fun _ => stay⟩
  clear s
  rintro _ h156 ⟨D4, hq4, inv4, s⟩
  refine ⟨_, s.cell0 (i := 0) rfl, ?_⟩
  have hm : ∀ x : Int, x = (k : Int) + 1 → ((l : Int) - x).toNat < ((l : Int) - (k : Int)).toNat := fun x hx => by omega
  rw [br_bne]
  refine ⟨fun _ => ⟨⟨k + 1, lb, D4, L2, T1, sure2, rfl, rfl, by omega, rfl, by rw [hg2], hd2, hs2, hc2, by omega, hT1, by omega, inv4, s.drop⟩, hm _ rfl⟩, fun e4 => ⟨_, _, _, s.cell0 (i := 3) rfl, ?_⟩⟩
  rw [← hd2]
  refine (restart_ok ((s.old hl).up3) inv4.wf (by omega)).mono fun v h162 ⟨hv, s⟩ => ⟨hv, ?_⟩
  have hw32 : IntKind.wrap .u32 ((L.gen : Int) + 1) = ((L.gen + 1 : Nat) : Int) := by rw [wrap_u32]; omega
  rw [hw32]
  obtain ⟨hpre, hsure, hnew⟩ := inv4.restart (by omega) (by omega) op.list
  have hqr : (restartD D4 op.list).queue.length = 0 := rfl
  have hdr : (restartD D4 op.list).down = false := rfl
  have hwr := restartD_wf inv4.wf op.list
  have hsm := scanD_small (restartD D4 op.list) L2.start L2.count 1
  rw [hs2, hc2] at hpre hsure hnew hsm
  generalize restartD D4 op.list = D5 at *
  have s := s.up1.drop.up1.drop.up1.drop
  refine (open_ok s.at hwr hdr (start := 3) (count := 50) (least := 1) (gen := L.gen + 1) (by omega) (by omega) (by omega) (by omega)).mono fun v h164 ⟨lb2, p166, l167, c168, S2, hv, hS2, nw2⟩ => ⟨nw2.ext, _, p166, l167, c168, 0, hv, ?_⟩
  have hnew := hnew (L.gen + 1) (by omega) (by omega)
  rw [← hS2] at hpre hsure hnew hsm
  generalize (scanD D5 3 50 1).2 = nx at *
  have s := s.join nw2
  simp only [List.cons_append, List.nil_append] at s
  have s := s.up2.ownsRds.up2
  have hb2 : Bls h164 p166 l167 S2 := bls_own s
  have hb1 : Bls h164 tp tl T1 := bls_own s.up5.up5
  have hl2 := hb2.1
  have hl1 := hb1.1
  have hlen2 := hpre.length_le
  simp only [rL, List.length_map] at hlen2 hsure
  refine ⟨fun _ h' => h' = h164, br_no rfl (br_no ?_ ?_), ?_⟩
  · rw [decide_eq_false (by omega)]
  · refine (ahead_ok hb2 hb1 (by omega) ?_).mono fun v h172 ⟨hv, hh⟩ => ?_
    · intro e he
      have := hsm _ (List.mem_map.2 ⟨e, he, rfl⟩)
      omega
    subst hh
    exact ⟨Ext.refl _, true, by rw [hv, decide_eq_true hpre], br_no rfl rfl⟩
  rintro _ _ rfl
  refine ⟨⟨k + 1, lb2, D5, ⟨L2.d, 3, 50, L.gen + 1, nx, false⟩, S2, S2.length, rfl, rfl, by omega, by omega, rfl, rfl, rfl, rfl, by dsimp only; omega, by omega, by omega, ?_, St.four (s.up3.up3)⟩, hm _ rfl⟩
  simpa [rL] using hnew
end Go.Proofs.Ytgeoelahfljefaa
