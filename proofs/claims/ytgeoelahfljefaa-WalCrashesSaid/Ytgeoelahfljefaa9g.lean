/- Layer 9: WalWhole. -/
import Derived.Test.Ytgeoelahfljefaa9f
import Derived.Test.YtgeoelahfljefaaFx
set_option linter.unusedVariables false
set_option maxRecDepth 100000
namespace Go.Proofs.Ytgeoelahfljefaa
open Go Go.Vc Go.Proofs
theorem awake9_ok (h : Heap) : CallsH Try.prog n_law09_awake #[] h fun v h' => v = .bool true ∧ Ext h h' := by
  refine C_law09_awake ?_
  unfold F_law09_awake
  refine (new_ok h 3 (by omega)).mono fun v h1 ⟨d, hv, nw⟩ => ⟨nw.ext, _, 0, hv, ?_⟩
  have H0 := hold_new (d := d) (n := 3) (start := 0) (count := 3) (gen := 1) (by omega) (by omega) (by omega) (by omega)
  refine (open_ok nw.st.at H0.on.wf rfl (start := 0) (count := 3) (least := 1) (gen := 1) (by omega) (by omega) (by omega) (by omega)).mono fun v h5 ⟨lb, p7, l8, c9, S, hv, hS, nw2⟩ => ⟨nw2.ext, _, p7, l8, c9, 0, hv, br_yes rfl ?_⟩
  rw [scan_new (by omega)] at nw2
  have s := nw.st.join nw2
  simp only [List.cons_append, List.nil_append] at s
  refine s.newMark fun b11 h15 s _ => ?_
  have s : St h h15 [own 1 (some (Addr.mk b11 0 none)) 1 1 (bcs [97]), Lv lb ⟨d, 0, 3, 1, 0, false⟩, own 1 p7 l8 c9 (S.map (·.1.v)), owns S, Dv d (newD 3)] := s.impl fun m q => ⟨rfl, Nat.le_refl _, by unfold maxLen; omega, .inr ⟨b11, 0, [], rfl, rfl, q⟩⟩
  rcases H0.append [97] with ⟨hh, _⟩ | ⟨_, hh, _⟩ | ⟨_, _, e0, e1, H1⟩
  · simp at hh
  · exact absurd hh (by simp [partsN])
  · refine (append_ok s.ro.up1.up4.up1 (Nat.le_refl 1) (by omega) H0.on.wf H0.lwf (by simp [newD])).mono fun v h17 ⟨hv, s⟩ => ?_
    rw [e0] at hv
    rw [e1] at s
    refine ⟨0, hv, br_yes rfl ?_⟩
    refine (room_ok s.at H1.lwf).mono fun v h20 ⟨hv, hh⟩ => ?_
    subst hh
    exact ⟨Ext.refl _, _, hv, by rfl, s.ext⟩
theorem awake9_end {h0 h : Heap} {l : List HP} (s : St h0 h l) : CallsH Try.prog n_law09_awake #[] h fun v h' => Ext h h' ∧ ∃ t, v = .bool t ∧ (Value.bool t = .bool true ∧ Ext h0 h') :=
  (awake9_ok h).mono fun v h7 ⟨hv, e⟩ => ⟨e, true, hv, rfl, s.ext.trans e⟩
theorem partsS_take {rs : List (List UInt8)} (h : ∀ b ∈ rs, b.length ≤ 1000) : ∀ k, partsS (rs.take k) ≤ 10 * k := by
  induction rs with
  | nil => intro k; simp [partsS]
  | cons b r ih =>
    intro k
    cases k with
    | zero => simp [partsS]
    | succ k =>
      have h1 := ih (fun x hx => h x (List.mem_cons_of_mem _ hx)) k
      have h2 := h b (List.mem_cons_self ..)
      rw [List.take_succ_cons, partsS]
      unfold partsN
      omega
theorem rL_take {S : List Pg} {k : Nat} (hk : k < S.length) : (rL S).take (k + 1) = (rL S).take k ++ [S[k].2] := by
  have hk' : k < (rL S).length := by simpa [rL] using hk
  rw [List.take_succ_eq_append_getElem hk']
  simp [rL]
theorem walWhole_ok {h : Heap} {p : Option Addr} {l c : Nat} {S : List Pg} (hS : Bls h p l S) : CallsH Try.prog n_law09_WalWhole #[.slice p l c] h fun v h' => v = .bool true ∧ Ext h h' := by
  refine C_law09_WalWhole p l c ?_
  unfold F_law09_WalWhole
  have hlen := hS.1
  refine (awake9_ok h).mono fun v h1 ⟨hv, e1⟩ => ⟨e1, true, hv, br_no rfl ?_⟩
  have s := (St.start h).keep e1
  refine (few2_ok (hS.ext s.ext) 30 1000 (by omega)).mono fun v h7 ⟨⟨t, hv, ht⟩, hh⟩ => ?_
  subst hh
  refine ⟨Ext.refl _, t, hv, ?_⟩
  cases t
  · exact br_yes rfl (awake9_end s)
  obtain ⟨h30, h1000⟩ := ht rfl
  have hsm : ∀ b ∈ rL S, b.length ≤ 1000 := fun b hb => by
    obtain ⟨e, he, rfl⟩ := List.mem_map.1 hb
    exact h1000 e he
  refine br_no rfl ?_
  refine (new_ok h7 400 (by omega)).mono fun v h13 ⟨d, hv, nw⟩ => ⟨nw.ext, _, 0, hv, ?_⟩
  have H0 := hold_new (d := d) (n := 400) (start := 0) (count := 400) (gen := 7) (by omega) (by omega) (by omega) (by omega)
  have s := s.join nw
  simp only [List.cons_append, List.nil_append] at s
  refine (open_ok s.at H0.on.wf rfl (start := 0) (count := 400) (least := 1) (gen := 7) (by omega) (by omega) (by omega) (by omega)).mono fun v h17 ⟨lb, p19, l20, c21, S1, hv, hS1, nw2⟩ => ⟨nw2.ext, _, p19, l20, c21, 0, hv, br_no rfl ?_⟩
  rw [scan_new (by omega)] at nw2 hS1
  have s := s.join nw2
  simp only [List.cons_append, List.nil_append] at s
  have hl20 : l20 = 0 := by
    have := s.up1.len.1
    have h2 : S1 = [] := by simpa [rL] using hS1
    subst h2
    simpa using this.symm
  subst hl20
  refine br_no rfl ?_
  have hps := partsS_take hsm
  refine ⟨fun st h' => ∃ (k : Nat) (D : Dev), st.2 = k ∧ k ≤ l ∧ st.1 = ((400 - partsS ((rL S).take k) : Nat) : Int) ∧ D.queue.length ≤ 55 * k ∧ Hold D ⟨d, 0, 400, 7, partsS ((rL S).take k), false⟩ 400 ((rL S).take k) ∧ St h h' [Lv lb ⟨d, 0, 400, 7, partsS ((rL S).take k), false⟩, Dv d D],
    fun st _ => ((l : Int) - st.2).toNat, ⟨0, newD 400, rfl, Nat.zero_le _, rfl, Nat.zero_le _, H0, St.two (s.up3.up1)⟩, ?_⟩
  clear s
  rintro ⟨room, i⟩ h26 ⟨k, D, rfl, hk, rfl, hq, H, s⟩
  dsimp only at *
  rw [br_decide]
  refine ⟨fun hlt => ⟨by omega, hlt, ?_⟩, fun hge => ?_⟩
  · have hkS : k < S.length := by omega
    obtain ⟨a, rfl, hc, hb⟩ := hS.get hkS
    have cell_ : ∀ {h'}, Ext h h' → cell h' (a.add k) = some (.slice S[k].1.1 S[k].1.2.1 S[k].1.2.2) := fun e => by
      obtain ⟨a', e', hc, _⟩ := (hS.ext e).get hkS
      cases e'
      exact hc
    have hbl := hb.1
    have hb1 := h1000 _ (List.getElem_mem hkS)
    have hcap := (hS.2.2 _ (List.getElem_mem hkS)).1
    simp only [deref_some, Int.toNat_natCast, Nat.mul_one]
    refine ⟨_, _, _, cell_ s.ext, ?_⟩
    refine (rparts_ok S[k].1.2.1 (by omega)).mono fun v h32 ⟨hv, hh⟩ => ?_
    subst hh
    refine ⟨Ext.refl _, _, hv, by omega, hlt, _, _, _, cell_ s.ext, ?_⟩
    have hp10 := hps k
    have hp10' := hps (k + 1)
    have hsn : partsS ((rL S).take (k + 1)) = partsS ((rL S).take k) + partsN S[k].2.length := by rw [rL_take hkS, partsS_snoc]
    rcases H.append S[k].2 with ⟨hh, _⟩ | ⟨_, hh, _⟩ | ⟨_, _, e0, e1, H1⟩
    · omega
    · exfalso
      have hh : 400 < partsS ((rL S).take k) + partsN S[k].2.length := hh
      omega
    · refine (append_ok (c := S[k].1.2.2) ((s.old hb.2).dn2) hcap (by omega) H.on.wf H.lwf (by omega)).mono fun v h39 ⟨hv, s⟩ => ?_
      have hqq := appendD_q ⟨d, 0, 400, 7, partsS ((rL S).take k), false⟩ D S[k].2
      rw [e0] at hv
      rw [e1] at s
      refine ⟨0, hv, br_no rfl ?_⟩
      refine (room_ok s.at H1.lwf).mono fun v h42 ⟨hv, hh⟩ => ?_
      subst hh
      refine ⟨Ext.refl _, _, hv, br_no ?_ ?_⟩
      · dsimp only
        rw [← hbl, wrap_i64 (by omega) (by omega), bne_eq_false_iff_eq]
        omega
      · refine ⟨by omega, hlt, _, _, _, cell_ s.ext, by omega, hlt, _, _, _, cell_ s.ext, ?_⟩
        refine (parts_ok S[k].1.2.1 (by omega)).mono fun v h53 ⟨hv, hh⟩ => ?_
        subst hh
        refine ⟨Ext.refl _, _, hv, ?_⟩
        refine (rparts_ok S[k].1.2.1 (by omega)).mono fun v h56 ⟨hv, hh⟩ => ?_
        subst hh
        refine ⟨Ext.refl _, _, hv, br_no (by simp) ⟨⟨k + 1, (appendD ⟨d, 0, 400, 7, partsS ((rL S).take k), false⟩ D S[k].2).2.2, ?_, by omega, ?_, ?_, ?_, ?_⟩, ?_⟩⟩
        · rw [wrap_i64 (by omega) (by omega)]; omega
        · rw [← hbl, wrap_i64 (by omega) (by omega)]; omega
        · exact Nat.le_trans hqq (by omega)
        · rw [hsn, rL_take hkS]; exact H1
        · rw [hsn]; exact St.two s
        · rw [wrap_i64 (n := (k : Int) + 1) (by omega) (by omega)]
          show ((l : Int) - ((k : Int) + 1)).toNat < ((l : Int) - (k : Int)).toNat
          omega
  · obtain rfl : k = l := by omega
    have hall : (rL S).take k = rL S := List.take_of_length_le (by simp [rL]; omega)
    rw [hall] at H s ⊢
    have hsc := H.scan (least := 1) (by dsimp only; omega)
    have hsc2 := H.scanMore (least := 8) (by dsimp only; omega)
    have hn := H.lwf.next
    dsimp only at hsc hsc2 hn
    refine (open_ok s.up1.at H.on.wf H.on.up (start := 0) (count := 400) (least := 1) (gen := 7) (by omega) (by omega) (by omega) (by omega)).mono fun v h59 ⟨lb2, p61, l62, c63, S2, hv, hS2, nw3⟩ => ⟨nw3.ext, _, p61, l62, c63, 0, hv, ?_⟩
    rw [hsc] at hS2 nw3
    have s := s.join nw3
    simp only [List.cons_append, List.nil_append] at s
    refine (open_ok s.up4.at H.on.wf H.on.up (start := 0) (count := 400) (least := 8) (gen := 8) (by omega) (by omega) (by omega) (by omega)).mono fun v h66 ⟨lb3, p68, l69, c70, S3, hv, hS3, nw4⟩ => ⟨nw4.ext, _, p68, l69, c70, 0, hv, br_yes rfl ?_⟩
    rw [hsc2] at hS3 nw4
    have s := s.join nw4
    simp only [List.cons_append, List.nil_append] at s
    have hl69 : l69 = 0 := by
      have := s.up1.len.1
      have h2 : S3 = [] := by simpa [rL] using hS3
      subst h2
      simpa using this.symm
    subst hl69
    have hb2 : Bls h66 p61 l62 S2 := bls_own ((s.up5.ownsRds).up5)
    have hl62 := hb2.1
    have hl62' : S2.length = S.length := by have := congrArg List.length hS2; simpa [rL] using this
    refine (same2_ok hb2 (hS.ext s.ext) (by omega) ?_).mono fun v h73 ⟨hv, hh⟩ => ?_
    · intro e he
      have : e.2 ∈ rL S2 := List.mem_map.2 ⟨e, he, rfl⟩
      rw [hS2] at this
      have := hsm _ this
      omega
    subst hh
    refine ⟨Ext.refl _, true, by rw [hv, decide_eq_true hS2], br_yes rfl ?_⟩
    refine (room_ok (n := 400) s.up3.at ⟨hn, Nat.le_refl _, by omega, by dsimp only; omega⟩).mono fun v h76 ⟨hv, hh⟩ => ?_
    subst hh
    refine ⟨Ext.refl _, _, hv, br_yes (by simp) (br_yes rfl (br_yes rfl ?_))⟩
    refine (room_ok (n := 400) s.at ⟨by dsimp only; omega, Nat.le_refl _, by omega, by dsimp only; omega⟩).mono fun v h79 ⟨hv, hh⟩ => ?_
    subst hh
    exact ⟨Ext.refl _, _, hv, by rfl, s.ext⟩
end Go.Proofs.Ytgeoelahfljefaa
