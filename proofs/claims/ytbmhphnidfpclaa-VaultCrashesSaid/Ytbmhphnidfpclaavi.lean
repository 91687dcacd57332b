/- Layer 10: the vault's functions, third part. -/
import Derived.Test.Ytbmhphnidfpclaavh
set_option linter.unusedVariables false
set_option maxRecDepth 100000
namespace Go.Proofs.Ytbmhphnidfpclaa
open Go Go.Vc Go.Proofs
section
variable {h0 h : Heap} {F : List HP} {b d n lb : Nat} {D : Dev} {s : Vs} {lg : Option Addr} {ov : Bool} {V : VT}
theorem vappend_ok {xs : List UInt8} {p : Option Addr} {l c : Nat} (hd : V.L.d = d) (hs : St h0 h (Vv b d V.s (some (Addr.mk lb 0 none)) V.ov :: Lv lb V.L :: Dv d V.D :: rdo 1 p l (bcs xs) :: F)) (hlc : l ≤ c) (hmx : l ≤ 1000000000) (w : V.D.Wf n) (lw : V.L.Wf n) (hq : V.D.queue.length ≤ 900000) :
    CallsH Try.prog n_vault_Vault_Append #[ptr b, .slice p l c] h fun v h' => v = .int .i64 (appendT V xs).1 ∧
      St h0 h' (Vv b d (appendT V xs).2.s (some (Addr.mk lb 0 none)) (appendT V xs).2.ov :: Lv lb (appendT V xs).2.L :: Dv d (appendT V xs).2.D :: rdo 1 p l (bcs xs) :: F) := by
  refine C_vault_Vault_Append (some (Addr.mk b 0 none)) p l c ?_
  unfold F_vault_Vault_Append
  simp only [deref_some, add_mk, Nat.zero_add]
  refine br_no rfl ⟨V.ov, St.cell0 (i := 5) hs rfl, ?_⟩
  unfold appendT
  cases hov : V.ov
  rotate_left
  · rw [if_pos rfl]
    refine br_yes rfl ⟨rfl, ?_⟩
    rw [hov] at hs ⊢
    exact hs
  rw [if_neg (by simp)]
  refine br_no rfl ⟨_, St.cell0 (i := 4) hs rfl, ?_⟩
  subst hd
  refine (append_ok hs.dn3 hlc hmx w lw hq).mono fun v h5 ⟨hv, st⟩ => ⟨_, hv, ?_⟩
  rw [hov] at st
  exact (vdone_ok st.up3 _).mono fun v h8 ⟨hv, st⟩ => ⟨_, hv, rfl, st⟩
theorem vflush_ok (hd : V.L.d = d) (hs : St h0 h (Vv b d V.s (some (Addr.mk lb 0 none)) V.ov :: Lv lb V.L :: Dv d V.D :: F)) (w : V.D.Wf n) (hq : V.D.queue.length ≤ 900000) :
    CallsH Try.prog n_vault_Vault_Flush #[ptr b] h fun v h' => v = .int .i64 (flushT V).1 ∧
      St h0 h' (Vv b d (flushT V).2.s (some (Addr.mk lb 0 none)) (flushT V).2.ov :: Lv lb (flushT V).2.L :: Dv d (flushT V).2.D :: F) := by
  refine C_vault_Vault_Flush (some (Addr.mk b 0 none)) ?_
  unfold F_vault_Vault_Flush
  simp only [deref_some, add_mk, Nat.zero_add]
  refine br_no rfl ⟨V.ov, St.cell0 (i := 5) hs rfl, ?_⟩
  unfold flushT
  cases hov : V.ov
  rotate_left
  · rw [if_pos rfl]
    refine br_yes rfl ⟨rfl, ?_⟩
    rw [hov] at hs ⊢
    exact hs
  rw [if_neg (by simp)]
  refine br_no rfl ⟨_, St.cell0 (i := 4) hs rfl, ?_⟩
  subst hd
  refine (lflush_ok hs.dn2 w (by omega)).mono fun v h5 ⟨hv, st⟩ => ⟨_, hv, ?_⟩
  rw [hov] at st
  exact (vdone_ok st.up2 _).mono fun v h8 ⟨hv, st⟩ => ⟨_, hv, rfl, st⟩
theorem vroom_ok (a : At h (Vv b d s (some (Addr.mk lb 0 none)) ov)) {L : Lg} (al : At h (Lv lb L)) (w : L.Wf n) : CallsH Try.prog n_vault_Vault_Room #[ptr b] h fun v h' => v = .int .i64 ((L.count - L.next : Nat) : Int) ∧ h' = h := by
  refine C_vault_Vault_Room (some (Addr.mk b 0 none)) ?_
  unfold F_vault_Vault_Room
  simp only [deref_some, add_mk, Nat.zero_add]
  refine br_no rfl ⟨_, pts_cell a (i := 4) rfl, ?_⟩
  refine (room_ok al w).mono fun v h3 ⟨hv, hh⟩ => ?_
  subst hh
  exact ⟨Ext.refl _, _, hv, rfl, rfl⟩
theorem parts_take {rs : List (List UInt8)} {k : Nat} (hk : k < rs.length) : partsS (rs.take (k + 1)) = partsS (rs.take k) + partsN rs[k].length := by
  rw [List.take_succ_eq_append_getElem hk, partsS_snoc]
theorem parts_mono (rs : List (List UInt8)) (k : Nat) : partsS (rs.take k) ≤ partsS rs := by
  conv => rhs; rw [← List.take_append_drop k rs]
  rw [partsS_append]
  omega
theorem fits_ok {S : List Pg} {p : Option Addr} {l c : Nat} (a : At h (Vv b d s lg ov)) (ad : At h (Dv d D)) (w : D.Wf n) (hn : 2 ≤ n) (hS : Bls h p l S) (hl : l ≤ 1000000) :
    CallsH Try.prog n_vault_Vault_fits #[ptr b, .slice p l c] h fun v h' => v = .int .i64 (fitsV (rL S) (spN n) s.gen) ∧ h' = h := by
  refine C_vault_Vault_fits (some (Addr.mk b 0 none)) p l c ?_
  unfold F_vault_Vault_fits
  have hSl := hS.1
  have hm := w.max
  have hsn : spN n ≤ n := by unfold spN; omega
  have hrl : (rL S).length = l := by simp [rL, hSl]
  refine ⟨fun st h' => h' = h ∧ ∃ k : Nat, st.2 = k ∧ k ≤ l ∧ st.1 = ((min (partsS ((rL S).take k)) (spN n + 1) : Nat) : Int) ∧ ∀ x ∈ (rL S).take k, x.length ≤ 6000, fun st _ => ((l : Int) - st.2).toNat, ⟨rfl, 0, rfl, Nat.zero_le _, by simp [partsS], fun x hx => by simp at hx⟩, ?_⟩
  rintro ⟨pg, i⟩ h3 ⟨rfl, k, rfl, hk, rfl, hall⟩
  dsimp only at *
  rw [br_decide]
  refine ⟨fun hlt => ⟨by omega, hlt, ?_⟩, fun hge => ?_⟩
  · have hkS : k < S.length := by omega
    have hkr : k < (rL S).length := by omega
    have ek : (rL S)[k] = S[k].2 := by simp [rL]
    obtain ⟨a', rfl, hc, hb⟩ := hS.get hkS
    have hbl := hb.1
    simp only [deref_some, Int.toNat_natCast, Nat.mul_one]
    refine ⟨_, _, _, hc, ?_⟩
    rw [br_decide]
    refine ⟨fun hgt => ⟨?_, by trivial⟩, fun hle => ?_⟩
    · unfold fitsV
      rw [if_pos]
      rw [List.any_eq_true]
      exact ⟨(rL S)[k], List.getElem_mem hkr, by rw [ek]; simp; omega⟩
    · refine (parts_ok S[k].1.2.1 (by omega)).mono fun v h9 ⟨hv, hh⟩ => ?_
      subst hh
      refine ⟨Ext.refl _, _, hv, ?_⟩
      refine (space_ok a ad w hn).mono fun v h12 ⟨hv, hh⟩ => ?_
      subst hh
      have hpn : partsN S[k].1.2.1 ≤ 60 := by unfold partsN; omega
      have hps := parts_take hkr
      rw [ek, hbl] at hps
      have hmin : minI (IntKind.wrap .i64 (((min (partsS ((rL S).take k)) (spN n + 1) : Nat) : Int) + (partsN S[k].1.2.1 : Nat))) (IntKind.wrap .i64 ((spN n : Nat) + 1)) = ((min (partsS ((rL S).take (k + 1))) (spN n + 1) : Nat) : Int) := by
        rw [wrap_i64 (by omega) (by omega), wrap_i64 (by omega) (by omega), hps]
        unfold minI
        split <;> omega
      rw [wrap_i64 (n := (k : Int) + 1) (by omega) (by omega)]
      refine ⟨Ext.refl _, _, hv, ⟨by trivial, k + 1, by omega, by omega, hmin, fun x hx => ?_⟩, by omega⟩
      rw [List.take_succ_eq_append_getElem hkr] at hx
      rcases List.mem_append.1 hx with h | h
      · exact hall x h
      · rw [List.mem_singleton.1 h, ek]; omega
  · obtain rfl : k = l := by omega
    rw [List.take_of_length_le (by omega)] at hall ⊢
    have hany : ¬ (rL S).any (fun b => decide (6000 < b.length)) = true := by
      rw [List.any_eq_true]
      rintro ⟨x, hx, hh⟩
      have := hall x hx
      have := of_decide_eq_true hh
      omega
    refine (space_ok a ad w hn).mono fun v h15 ⟨hv, hh⟩ => ?_
    subst hh
    refine ⟨Ext.refl _, _, hv, ?_⟩
    unfold fitsV
    rw [if_neg hany]
    rw [br_decide]
    refine ⟨fun hgt => ⟨?_, by trivial⟩, fun hle => ?_⟩
    · rw [if_pos (by omega)]
    · rw [if_neg (by omega)]
      simp only [deref_some, add_mk, Nat.zero_add]
      refine ⟨_, pts_cell a (i := 3) rfl, ?_⟩
      rw [br_decide]
      refine ⟨fun hgt => ⟨?_, by trivial⟩, fun hle => ⟨?_, by trivial⟩⟩
      · rw [if_pos (by omega)]
      · rw [if_neg (by omega)]
theorem fill_ok {S : List Pg} {p : Option Addr} {l c : Nat} (hs : St h0 h (Vv b d s lg ov :: Dv d D :: F)) (hS : Bls h0 p l S) (hl : l ≤ 1000) (w : D.Wf n) (hd : D.down = false) (hn : 2 ≤ n) (hg1 : 1 ≤ s.gen) (hg : s.gen < 4294967296) (hq : D.queue.length ≤ 100000) (hb : ∀ e ∈ S, e.2.length ≤ 6000) :
    CallsH Try.prog n_vault_Vault_fill #[ptr b, .agg #[.bool s.sec, .int .u32 s.least, .int .u32 s.gen], .slice p l c] h fun v h' => ∃ lb q, v = .tuple #[.pointer q, .int .i64 (fillD (openL n d s.swap D) D (rL S)).1] ∧
      ((fillD (openL n d s.swap D) D (rL S)).1 = 0 → q = some (Addr.mk lb 0 none)) ∧ St h0 h' (Lv lb (fillD (openL n d s.swap D) D (rL S)).2.1 :: Dv d (fillD (openL n d s.swap D) D (rL S)).2.2 :: Vv b d s lg ov :: F) := by
  refine C_vault_Vault_fill (some (Addr.mk b 0 none)) #[.bool s.sec, .int .u32 s.least, .int .u32 s.gen] p l c ?_
  unfold F_vault_Vault_fill
  have hSl := hS.1
  have hm := w.max
  have hrl : (rL S).length = l := by simp [rL, hSl]
  refine hs.newBlk fun b0 h1 _ st _ => ?_
  simp only [deref_some, add_mk, Nat.zero_add]
  refine ⟨_, St.cell0 (i := 0) st.up1 rfl, _, st.cell0 (i := 0) rfl, _, st.cell0 (i := 2) rfl, _, st.cell0 (i := 2) rfl, ?_⟩
  have st := st.drop
  refine (from_ok st.at st.up1.at w hn (!s.sec)).mono fun v h8 ⟨hv, hh⟩ => ?_
  subst hh
  refine ⟨Ext.refl _, _, hv, ?_⟩
  refine (space_ok st.at st.up1.at w hn).mono fun v h11 ⟨hv, hh⟩ => ?_
  subst hh
  refine ⟨Ext.refl _, _, hv, ?_⟩
  refine (open_ok st.up1.at w hd (from_fit hn (!s.sec)) hg1 (Nat.le_refl _) hg).mono fun v h14 ⟨lb, p16, l17, c18, S1, hv, hS1, nw⟩ => ⟨nw.ext, _, p16, l17, c18, 0, hv, br_no rfl ?_⟩
  have st := st.join nw
  simp only [List.cons_append, List.nil_append] at st
  have lw := openL_wf (d := d) (s := s.swap) w hn hg
  have st : St h0 h14 (Lv lb (openL n d s.swap D) :: own 1 p16 l17 c18 (S1.map (·.1.v)) :: owns S1 :: Vv b d s lg ov :: Dv d D :: F) := st
  have st := ((st.up1.drop).up1.drop).up2
  have hLd : (openL n d s.swap D).d = d := rfl
  generalize openL n d s.swap D = L1 at *
  refine ⟨fun i h' => ∃ (k : Nat) (L : Lg) (E : Dev), i = k ∧ k ≤ l ∧ fillD L1 D (rL S) = fillD L E ((rL S).drop k) ∧ L.Wf n ∧ E.Wf n ∧ L.d = d ∧ E.queue.length ≤ D.queue.length + 55 * k ∧ St h0 h' (Lv lb L :: Dv d E :: Vv b d s lg ov :: F), fun i _ => ((l : Int) - i).toNat,
    ⟨0, L1, D, rfl, Nat.zero_le _, rfl, lw, w, hLd, Nat.le_refl _, st.up1⟩, ?_⟩
  clear st
  rintro i h23 ⟨k, L, E, rfl, hk, he, lw', we, hd', hqe, st⟩
  rw [br_decide]
  refine ⟨fun hlt => ⟨by omega, hlt, ?_⟩, fun hge => ?_⟩
  · have hkS : k < S.length := by omega
    have hkr : k < (rL S).length := by omega
    have ek : (rL S)[k] = S[k].2 := by simp [rL]
    have hbk := hb _ (List.getElem_mem hkS)
    have hcap := (hS.2.2 _ (List.getElem_mem hkS)).1
    have hqa := appendD_q L E S[k].2
    have hwa := appendD_wf (L := L) we S[k].2
    obtain ⟨l1, l2, l3, l4, l5⟩ := appendD_lwf (D := E) lw' S[k].2
    obtain ⟨a, rfl, hc, hbs⟩ := hS.get hkS
    have hc' : cell h23 (a.add k) = some (.slice S[k].1.1 S[k].1.2.1 S[k].1.2.2) := by
      obtain ⟨a', e', hc, _⟩ := (hS.ext st.ext).get hkS
      cases e'
      exact hc
    have hbl := hbs.1
    simp only [deref_some, Int.toNat_natCast, Nat.mul_one]
    refine ⟨_, _, _, hc', ?_⟩
    subst hd'
    refine (append_ok (c := S[k].1.2.2) ((st.old hbs.2).dn2) hcap (by omega) we lw' (by omega)).mono fun v h29 ⟨hv, st⟩ => ⟨_, hv, ?_⟩
    rw [List.drop_eq_getElem_cons hkr, ek, fillD] at he
    rw [br_bne]
    refine ⟨fun hne => ?_, fun heq => ?_⟩
    · rw [if_pos hne] at he
      rw [he]
      exact ⟨lb, none, rfl, fun h => absurd h hne, st.up2.drop⟩
    · rw [if_neg (by simpa using heq)] at he
      rw [wrap_i64 (by omega) (by omega)]
      exact ⟨⟨k + 1, _, _, by omega, by omega, he, l1, hwa, l2, by omega, st.up2.drop⟩, by omega⟩
  · obtain rfl : k = l := by omega
    rw [List.drop_of_length_le (by omega), fillD] at he
    subst hd'
    refine (lflush_ok st we (by omega)).mono fun v h32 ⟨hv, st⟩ => ⟨_, hv, ?_⟩
    rw [he]
    exact ⟨lb, _, rfl, fun _ => rfl, st⟩
end
end Go.Proofs.Ytbmhphnidfpclaa
