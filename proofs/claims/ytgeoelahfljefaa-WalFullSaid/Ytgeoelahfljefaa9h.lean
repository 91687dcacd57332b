/- Layer 9: WalFull. -/
import Derived.Test.Ytgeoelahfljefaa9g
set_option linter.unusedVariables false
set_option maxRecDepth 100000
namespace Go.Proofs.Ytgeoelahfljefaa
open Go Go.Vc Go.Proofs
theorem walFull_ok {h : Heap} {cnt : Nat} (hcnt : cnt < 256) {p : Option Addr} {l c : Nat} {S : List Pg} (hS : Bls h p l S) : CallsH Try.prog n_law09_WalFull #[.int .u8 cnt, .slice p l c] h fun v h' => v = .bool true ∧ Ext h h' := by
  refine C_law09_WalFull cnt p l c ?_
  unfold F_law09_WalFull
  have hlen := hS.1
  refine ⟨fun _ h' => (S.length ≤ 30 ∧ ∀ e ∈ S, e.2.length ≤ 6100) ∧ St h h' [], ?_, ?_⟩
  · refine (awake9_ok h).mono fun v h1 ⟨hv, e1⟩ => ⟨e1, true, hv, br_no rfl ?_⟩
    have s := (St.start h).keep e1
    refine (few2_ok (hS.ext s.ext) 30 6100 (by omega)).mono fun v h7 ⟨⟨t, hv, ht⟩, hh⟩ => ?_
    subst hh
    refine ⟨Ext.refl _, t, hv, ?_⟩
    cases t
    · exact br_yes rfl (awake9_end s)
    · exact br_no rfl ⟨ht rfl, s⟩
  rintro _ h14 ⟨⟨h30, h6100⟩, s⟩
  refine ⟨by omega, ?_⟩
  have hn : IntKind.wrap .i64 (Int.tmod (cnt : Int) 31) = ((cnt % 31 : Nat) : Int) := by
    rw [Int.tmod_eq_emod_of_nonneg (by omega), wrap_i64 (by omega) (by omega)]; omega
  rw [hn]
  generalize hnn : cnt % 31 = n
  have hn31 : n ≤ 30 := by omega
  refine (new_ok h14 30 (by omega)).mono fun v h16 ⟨d, hv, nw⟩ => ⟨nw.ext, _, 0, hv, ?_⟩
  have H0 := hold_new (d := d) (n := 30) (start := 0) (count := n) (gen := 1) (by omega) (by omega) (by omega) (by omega)
  have s := s.join nw
  simp only [List.cons_append, List.nil_append] at s
  refine (open_ok s.at H0.on.wf rfl (start := 0) (count := n) (least := 1) (gen := 1) (by omega) (by omega) (by omega) (by omega)).mono fun v h20 ⟨lb, p22, l23, c24, S1, hv, hS1, nw2⟩ => ⟨nw2.ext, _, p22, l23, c24, 0, hv, ?_⟩
  rw [scan_new (by omega)] at nw2
  have s := s.join nw2
  simp only [List.cons_append, List.nil_append] at s
  have s := St.two (s.up3.up1)
  have s := (s.blsOld hS).nil 1
  refine ⟨fun st h' => ∃ (k : Nat) (D : Dev) (T : List Pg), st.2 = k ∧ k ≤ l ∧ T.length ≤ k ∧ (∀ e ∈ T, e ∈ S) ∧ D.queue.length ≤ 55 * k ∧ Hold D ⟨d, 0, n, 1, partsS (rL T), false⟩ 30 (rL T) ∧
      St h h' [own 1 st.1.1 st.1.2.1 st.1.2.2 (T.map (·.1.v)), rds S, Lv lb ⟨d, 0, n, 1, partsS (rL T), false⟩, Dv d D],
    fun st _ => ((l : Int) - st.2).toNat, ⟨0, newD 30, [], rfl, Nat.zero_le _, Nat.zero_le _, fun e he => (by cases he), Nat.zero_le _, H0, s⟩, ?_⟩
  clear s
  rintro ⟨⟨wp, wl, wc⟩, i⟩ h29 ⟨k, D, T, rfl, hk, hTk, hTS, hq, H, s⟩
  dsimp only at *
  rw [br_decide]
  refine ⟨fun hlt => ?_, fun hge => ?_⟩
  · have hkS : k < S.length := by omega
    obtain ⟨a, rfl, hc, hb⟩ := hS.get hkS
    have cell_ : ∀ {h'}, Ext h h' → cell h' (a.add k) = some (.slice S[k].1.1 S[k].1.2.1 S[k].1.2.2) := fun e => by
      obtain ⟨a', e', hc, _⟩ := (hS.ext e).get hkS
      cases e'
      exact hc
    have hbl := hb.1
    have hb1 := h6100 _ (List.getElem_mem hkS)
    have hcap := (hS.2.2 _ (List.getElem_mem hkS)).1
    refine (room_ok s.up2.at H.lwf).mono fun v h31 ⟨hv, hh⟩ => ?_
    subst hh
    refine ⟨Ext.refl _, _, hv, by omega, hlt, ?_⟩
    simp only [deref_some, Int.toNat_natCast, Nat.mul_one]
    refine ⟨_, _, _, cell_ s.ext, ?_⟩
    have hap := H.append S[k].2
    have hnx := H.lwf.next
    dsimp only at hnx hap
    refine (append_ok (c := S[k].1.2.2) ((s.up3.up3.old hb.2).dn2) hcap (by omega) H.on.wf H.lwf (by omega)).mono fun v h38 ⟨hv, s⟩ => ?_
    have hqq := appendD_q ⟨d, 0, n, 1, partsS (rL T), false⟩ D S[k].2
    have hcode : ((appendD ⟨d, 0, n, 1, partsS (rL T), false⟩ D S[k].2).1 = 3 ↔ 6000 < S[k].2.length) ∧
        ((appendD ⟨d, 0, n, 1, partsS (rL T), false⟩ D S[k].2).1 = 5 ↔ ¬6000 < S[k].2.length ∧ n - partsS (rL T) < partsN S[k].2.length) ∧
        ((appendD ⟨d, 0, n, 1, partsS (rL T), false⟩ D S[k].2).1 = 0 ↔ ¬6000 < S[k].2.length ∧ ¬n - partsS (rL T) < partsN S[k].2.length) := by
      rcases hap with ⟨g1, g2⟩ | ⟨g1, g2, g3⟩ | ⟨g1, g2, g3, _⟩
      · rw [g2]; dsimp only; omega
      · rw [g3]; dsimp only; omega
      · rw [g3]; omega
    have hpost : ∃ T' : List Pg, (T' = if (appendD ⟨d, 0, n, 1, partsS (rL T), false⟩ D S[k].2).1 = 0 then T ++ [S[k]] else T) ∧ Hold (appendD ⟨d, 0, n, 1, partsS (rL T), false⟩ D S[k].2).2.2 ⟨d, 0, n, 1, partsS (rL T'), false⟩ 30 (rL T') ∧ (appendD ⟨d, 0, n, 1, partsS (rL T), false⟩ D S[k].2).2.1 = ⟨d, 0, n, 1, partsS (rL T'), false⟩ := by
      rcases hap with ⟨g1, g2⟩ | ⟨g1, g2, g3⟩ | ⟨g1, g2, g3, g4, g5⟩
      · rw [g2]; exact ⟨T, rfl, H, rfl⟩
      · rw [g3]; exact ⟨T, rfl, H, rfl⟩
      · refine ⟨T ++ [S[k]], by rw [if_pos g3], ?_, ?_⟩
        · have : rL (T ++ [S[k]]) = rL T ++ [S[k].2] := by simp [rL]
          rw [this, partsS_snoc]; exact g5
        · have : rL (T ++ [S[k]]) = rL T ++ [S[k].2] := by simp [rL]
          rw [this, partsS_snoc]; exact g4
    obtain ⟨T', hT', H', hL'⟩ := hpost
    rw [hL'] at s
    generalize hE : (appendD ⟨d, 0, n, 1, partsS (rL T), false⟩ D S[k].2).1 = code at *
    generalize (appendD ⟨d, 0, n, 1, partsS (rL T), false⟩ D S[k].2).2.2 = D' at *
    refine ⟨_, hv, by omega, hlt, _, _, _, cell_ s.ext, ?_⟩
    refine (rparts_ok S[k].1.2.1 (by omega)).mono fun v h45 ⟨hv, hh⟩ => ?_
    subst hh
    refine ⟨Ext.refl _, _, hv, by omega, hlt, _, _, _, cell_ s.ext, ?_⟩
    rw [← hbl]
    refine ⟨fun t h' => t = decide (¬6000 < S[k].2.length ∧ n - partsS (rL T) < partsN S[k].2.length) ∧ h' = h45, ?_, ?_⟩
    · by_cases hlong : 6000 < S[k].2.length
      · refine br_no (by rw [decide_eq_true (by omega)]; rfl) ⟨?_, by trivial⟩
        rw [decide_eq_false (fun hh => hh.1 hlong)]
      · refine br_yes (by rw [decide_eq_false (by omega)]; rfl) ⟨?_, by trivial⟩
        rw [decide_eq_decide]
        omega
    rintro t52 h53 ⟨rfl, hh⟩
    subst hh
    have e3 : (code == 3) = decide (((S[k].2.length : Nat) : Int) > 6000) := by rw [Bool.eq_iff_iff, beq_iff_eq, decide_eq_true_iff, hcode.1]; omega
    have e5 : (code == 5) = decide (¬6000 < S[k].2.length ∧ n - partsS (rL T) < partsN S[k].2.length) := by rw [Bool.eq_iff_iff, beq_iff_eq, decide_eq_true_iff, hcode.2.1]
    refine ⟨fun _ h' => h' = h53, ?_, ?_⟩
    · rw [e3, e5]
      refine br_no (by cases decide (((S[k].2.length : Nat) : Int) > 6000) <;> rfl) (br_no (by cases decide (¬6000 < S[k].2.length ∧ n - partsS (rL T) < partsN S[k].2.length) <;> rfl) ?_)
      by_cases hlong : 6000 < S[k].2.length
      · refine br_no (by rw [decide_eq_true (by omega)]; rfl) (br_no ?_ rfl)
        have : (code == 0) = false := by rw [beq_eq_false_iff_ne]; omega
        rw [this]; rfl
      · refine br_yes (by rw [decide_eq_false (by omega)]; rfl) (br_no ?_ rfl)
        by_cases hf : n - partsS (rL T) < partsN S[k].2.length
        · have : (code == 0) = false := by rw [beq_eq_false_iff_ne]; omega
          rw [this, decide_eq_true ⟨hlong, hf⟩]; rfl
        · have : (code == 0) = true := by rw [beq_iff_eq]; omega
          rw [this, decide_eq_false (fun hh => hf hh.2)]; rfl
    rintro _ h56 hh
    subst hh
    have hTl := s.up3.len.1
    simp only [List.length_map, Nat.mul_one] at hTl
    refine ⟨fun st h' => st.2 = ((n - partsS (rL T') : Nat) : Int) ∧ St h h' [own 1 st.1.1 st.1.2.1 st.1.2.2 (T'.map (·.1.v)), rds S, Lv lb ⟨d, 0, n, 1, partsS (rL T'), false⟩, Dv d D'], ?_, ?_⟩
    · rw [br_beq]
      refine ⟨fun h0 => ⟨by omega, hlt, _, _, _, cell_ s.ext, s.newBlk fun b62 h63 _ s _ => ?_⟩, fun hne => ?_⟩
      · refine St.append (xs := [S[k].1.v]) (s.up4) ⟨rfl, by simp only [src, Nat.one_mul]; exact s.row0 rfl⟩ (by intro v hv; simp only [List.mem_singleton] at hv; subst hv; rfl) rfl (by omega) (by unfold maxLen; omega) fun p64 c66 h67 s _ => ?_
        rw [if_pos h0] at hT'
        have hR : rL T' = rL T ++ [S[k].2] := by rw [hT']; simp [rL]
        have hsn : partsS (rL T') = partsS (rL T) + partsN S[k].2.length := by rw [hR, partsS_snoc]
        have h2 := hcode.2.2.1 h0
        refine ⟨?_, ?_⟩
        · rw [wrap_i64 (by omega) (by omega)]; omega
        · have e : T'.map (·.1.v) = T.map (·.1.v) ++ [S[k].1.v] := by rw [hT']; simp
          rw [e]
          exact s.up1.drop.up3.drop.up3.up1
      · rw [if_neg hne] at hT'
        subst hT'
        exact ⟨by trivial, s.up2.drop.up3.up3⟩
    clear s
    rintro ⟨⟨wp', wl', wc'⟩, room⟩ h69 ⟨rfl, s⟩
    dsimp only at *
    refine (room_ok s.up2.at H'.lwf).mono fun v h71 ⟨hv, hh⟩ => ?_
    subst hh
    refine ⟨Ext.refl _, _, hv, br_no (by simp) ?_⟩
    rw [wrap_i64 (by omega) (by omega)]
    refine ⟨⟨k + 1, D', T', by omega, by omega, ?_, ?_, by omega, H', s⟩, by show ((l : Int) - ((k : Int) + 1)).toNat < ((l : Int) - (k : Int)).toNat; omega⟩
    · rw [hT']; split
      · simp; omega
      · omega
    · rw [hT']; split
      · intro e he
        rcases List.mem_append.1 he with h | h
        · exact hTS e h
        · rw [List.mem_singleton.1 h]; exact List.getElem_mem _
      · exact hTS
  · have hsc := H.scan (least := 1) (by dsimp only; omega)
    have hnx := H.lwf.next
    dsimp only at hsc hnx
    refine (open_ok s.up3.at H.on.wf H.on.up (start := 0) (count := n) (least := 1) (gen := 2) (by omega) (by omega) (by omega) (by omega)).mono fun v h87 ⟨lb2, p89, l90, c91, S2, hv, hS2, nw3⟩ => ⟨nw3.ext, _, p89, l90, c91, 0, hv, br_yes rfl ?_⟩
    rw [hsc] at hS2 nw3
    have s := s.join nw3
    simp only [List.cons_append, List.nil_append] at s
    have hb2 : Bls h87 p89 l90 S2 := bls_own ((s.up2.ownsRds).up2)
    have hb1 : Bls h87 wp wl T := bls_own ((s.up4.rdsSub hTS).up4)
    have hl90 := hb2.1
    have hl2 : S2.length = T.length := by have := congrArg List.length hS2; simpa [rL] using this
    refine (same2_ok hb2 hb1 (by omega) ?_).mono fun v h94 ⟨hv, hh⟩ => ?_
    · intro e he
      have : e.2 ∈ rL S2 := List.mem_map.2 ⟨e, he, rfl⟩
      rw [hS2] at this
      have := H.small _ this
      omega
    subst hh
    exact ⟨Ext.refl _, true, by rw [hv, decide_eq_true hS2], rfl, s.ext⟩
end Go.Proofs.Ytgeoelahfljefaa
