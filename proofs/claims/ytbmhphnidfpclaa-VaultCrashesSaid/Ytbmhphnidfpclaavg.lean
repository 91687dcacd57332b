/- Layer 10: the vault's functions. -/
import Derived.Test.Ytbmhphnidfpclaavf
import Derived.Test.YtbmhphnidfpclaaFh
set_option linter.unusedVariables false
set_option maxRecDepth 100000
namespace Go.Proofs.Ytbmhphnidfpclaa
open Go Go.Vc Go.Proofs
def Vs.r (s : Vs) : List Value := [.bool s.sec, .int .u32 s.least, .int .u32 s.gen]
def Vv (b d : Nat) (s : Vs) (lg : Option Addr) (ov : Bool) : HP := pts b 0 false [ptr d, .bool s.sec, .int .u32 s.least, .int .u32 s.gen, .pointer lg, .bool ov]
section
variable {h0 h : Heap} {F : List HP} {b d n : Nat} {D : Dev} {s : Vs} {lg : Option Addr} {ov : Bool}
theorem vencode_ok (s : Vs) (hl : s.least < 4294967296) (hg : s.gen < 4294967296) : CallsH Try.prog n_vault_state_encode #[.agg #[.bool s.sec, .int .u32 s.least, .int .u32 s.gen]] h fun v h' => ∃ p l c, v = .slice p l c ∧ New h h' [own 1 p l c (bcs (encV s))] := by
  refine C_vault_state_encode #[.bool s.sec, .int .u32 s.least, .int .u32 s.gen] ?_
  unfold F_vault_state_encode
  refine (St.start h).newBlk fun b0 h1 _ st _ => st.newBlk fun b2 h3 _ st _ => ?_
  simp only [add_mk, Nat.zero_add]
  refine ⟨_, st.up1.cell0 (i := 0) rfl, ?_⟩
  have st := W.mk st
  refine (flag_put st s.sec (by simp)).mono fun v h6 ⟨hv, st⟩ => ⟨hv, _, st.up1.cell0 (i := 1) rfl, ?_⟩
  simp only [putS, List.nil_append] at st
  refine (u32_put st s.least hl (by simp [numB_length])).mono fun v h9 ⟨hv, st⟩ => ⟨hv, _, st.up1.cell0 (i := 2) rfl, ?_⟩
  simp only [putS] at st
  refine (u32_put st s.gen hg (by simp [numB_length])).mono fun v h12 ⟨hv, st⟩ => ⟨hv, ?_⟩
  simp only [putS] at st
  refine (out_ok st.at (by simp [numB_length])).mono fun v h14 ⟨p', l', c', hv, nw⟩ => ⟨nw.ext, p', l', c', 0, hv, p', l', c', rfl, ?_⟩
  exact nw.under st.ext
theorem vdecode_ok {p : Option Addr} {l c : Nat} (hx : Bs h p l (encV s)) (hl1 : 1 ≤ s.least) (hlg : s.least ≤ s.gen) (hg : s.gen < 4294967295) :
    CallsH Try.prog n_vault_decode #[.slice p l c] h fun v h' => v = .tuple #[.agg #[.bool s.sec, .int .u32 s.least, .int .u32 s.gen], .bool true] ∧ Ext h h' := by
  refine C_vault_decode p l c ?_
  unfold F_vault_decode
  have hxl := hx.1
  rw [encV_length] at hxl
  refine (St.start h).newBlk fun b0 h1 _ st e1 => ?_
  refine (rdr_ok (hx.ext e1) (by omega)).mono fun v h3 ⟨b, hv, nw⟩ => ⟨nw.ext, _, hv, ?_⟩
  have st := st.join nw
  simp only [List.cons_append, List.nil_append] at st
  have eA : encV s = numB (if s.sec then 1 else 0) 1 ++ (numB s.least 4 ++ (numB s.gen 4 ++ [])) := by simp [encV]
  have eF : flagR (encV s) false = (s.sec, numB s.least 4 ++ (numB s.gen 4 ++ []), false) := by
    have ht : (encV s).take 1 = numB (if s.sec then 1 else 0) 1 := by rw [eA, take_num]
    have hd : (encV s).drop 1 = numB s.least 4 ++ (numB s.gen 4 ++ []) := by rw [eA, drop_num]
    have hv : valB ((encV s).take 1) = if s.sec then 1 else 0 := by
      rw [ht, numB_one]
      split <;> omega
    rw [flagR, if_pos ⟨rfl, by rw [encV_length]; omega, by rw [hv]; split <;> omega⟩, hv, hd]
    cases s.sec <;> rfl
  have eN : ∀ (x : Nat) (rest : List UInt8), x < 4294967296 → numR (numB x 4 ++ rest) false 4 = (x, rest, false) := fun x rest hx => by
    rw [numR, if_pos ⟨rfl, by rw [List.length_append, numB_length]; omega⟩, take_num, drop_num, valB_numB, Nat.mod_eq_of_lt (by simpa using hx)]
  refine (rFlag_ok st).mono fun v h6 ⟨hv, st⟩ => ⟨_, hv, ?_⟩
  rw [eF] at st ⊢
  refine (rU32_ok st).mono fun v h9 ⟨hv, st⟩ => ⟨_, hv, ?_⟩
  rw [eN _ _ (by omega)] at st ⊢
  refine (rU32_ok st).mono fun v h12 ⟨hv, st⟩ => ⟨_, hv, ?_⟩
  rw [eN _ _ (by omega)] at st ⊢
  dsimp only at st ⊢
  refine st.newBlk fun b14 h15 _ st _ => ?_
  refine st.storeAll (by simp) (by simp) (by intro v hv; simp at hv; rcases hv with rfl | rfl | rfl <;> rfl) fun h16 st => ?_
  refine ⟨_, st.row0 rfl, ?_⟩
  refine (done_ok st.up1.at).mono fun v h19 ⟨hv, hh⟩ => ?_
  subst hh
  refine ⟨Ext.refl _, true, by rw [hv]; rfl, br_yes rfl ?_⟩
  simp only [add_mk, Nat.zero_add]
  refine ⟨_, st.cell0 (i := 1) rfl, br_yes (by simp; omega) ⟨_, st.cell0 (i := 2) rfl, _, st.cell0 (i := 1) rfl, br_yes (by simp; omega) ⟨⟨_, st.cell0 (i := 2) rfl, ?_⟩, ?_⟩⟩⟩
  all_goals refine st.up2.storeAll (by simp) (by simp) (by intro v hv; simp at hv; rcases hv with rfl | rfl | rfl <;> rfl) fun h25 st => ?_
  · refine ⟨_, st.row0 rfl, ?_, st.ext⟩
    rw [decide_eq_true (by omega)]
  · refine ⟨_, st.up1.cell0 (i := 2) rfl, _, st.row0 rfl, ?_, st.ext⟩
    rw [decide_eq_true (by omega)]
theorem space_ok (a : At h (Vv b d s lg ov)) (ad : At h (Dv d D)) (w : D.Wf n) (hn : 2 ≤ n) : CallsH Try.prog n_vault_Vault_Space #[ptr b] h fun v h' => v = .int .i64 (spN n : Nat) ∧ h' = h := by
  refine C_vault_Vault_Space (some (Addr.mk b 0 none)) ?_
  unfold F_vault_Vault_Space
  have hl := w.len
  have hm := w.max
  refine br_no rfl ?_
  simp only [deref_some, add_mk, Nat.zero_add]
  refine ⟨_, pts_cell a (i := 0) rfl, ?_⟩
  refine (pages_ok ad).mono fun v h3 ⟨hv, hh⟩ => ?_
  subst hh
  refine ⟨Ext.refl _, _, hv, by omega, ?_, by trivial⟩
  rw [hl, wrap_i64 (n := (n : Int) - 2) (by omega) (by omega), Int.tdiv_eq_ediv_of_nonneg (by omega), wrap_i64 (by omega) (by omega)]
  unfold spN
  congr 1
  omega
theorem from_ok (a : At h (Vv b d s lg ov)) (ad : At h (Dv d D)) (w : D.Wf n) (hn : 2 ≤ n) (t : Bool) : CallsH Try.prog n_vault_Vault_from #[ptr b, .bool t] h fun v h' => v = .int .i64 (fromN n t : Nat) ∧ h' = h := by
  refine C_vault_Vault_from (some (Addr.mk b 0 none)) t ?_
  unfold F_vault_Vault_from
  have hm := w.max
  cases t
  · exact br_no rfl ⟨rfl, rfl⟩
  · refine br_yes rfl ((space_ok a ad w hn).mono fun v h1 ⟨hv, hh⟩ => ?_)
    subst hh
    have hs : spN n ≤ n := by unfold spN; omega
    refine ⟨Ext.refl _, _, hv, ?_, by trivial⟩
    rw [wrap_i64 (by omega) (by omega)]
    rfl
theorem vdone_ok (hs : St h0 h (Vv b d s lg ov :: F)) (e : Int) : CallsH Try.prog n_vault_Vault_done #[ptr b, .int .i64 e] h fun v h' => v = .int .i64 e ∧ St h0 h' (Vv b d s lg (ov || e == 6) :: F) := by
  refine C_vault_Vault_done (some (Addr.mk b 0 none)) e ?_
  unfold F_vault_Vault_done
  unfold Vv at hs
  simp only [deref_some, add_mk, Nat.zero_add]
  refine ⟨ov, hs.cell0 (i := 5) rfl, ?_⟩
  unfold Vv
  cases ov
  · exact br_no rfl (hs.store0 (i := 5) (by simp) rfl fun h5 s => ⟨by trivial, s⟩)
  · exact br_yes rfl (hs.store0 (i := 5) (by simp) rfl fun h5 s => ⟨by trivial, s⟩)
theorem vsave_ok {L : Lg} (hs : St h0 h (Vv b d s lg ov :: Dv d D :: F)) (w : D.Wf n) (hq : D.queue.length ≤ 100000) (s' : Vs) (hl : s'.least < 4294967296) (hg : s'.gen < 4294967296) :
    CallsH Try.prog n_vault_Vault_save #[ptr b, .agg #[.bool s'.sec, .int .u32 s'.least, .int .u32 s'.gen]] h fun v h' => v = .int .i64 (saveT ⟨s, ov, L, D⟩ s').1 ∧
      St h0 h' (Vv b d (saveT ⟨s, ov, L, D⟩ s').2.s lg (saveT ⟨s, ov, L, D⟩ s').2.ov :: Dv d (saveT ⟨s, ov, L, D⟩ s').2.D :: F) := by
  refine C_vault_Vault_save (some (Addr.mk b 0 none)) #[.bool s'.sec, .int .u32 s'.least, .int .u32 s'.gen] ?_
  unfold F_vault_Vault_save
  refine hs.newBlk fun b0 h1 _ st _ => ?_
  simp only [deref_some, add_mk, Nat.zero_add]
  refine ⟨_, St.cell0 (i := 0) st.up1 rfl, _, st.row0 rfl, ?_⟩
  refine (vencode_ok s' hl hg).mono fun v h6 ⟨p7, l8, c9, hv, nw⟩ => ⟨nw.ext, p7, l8, c9, hv, ?_⟩
  have st := st.join nw
  simp only [List.cons_append, List.nil_append] at st
  refine (save_ok (at_ := 0) st.ro.up3 w hq (by omega) (by omega)).mono fun v h11 ⟨hv, st⟩ => ⟨_, _, hv, ?_⟩
  have st := st.up1.drop.up2
  unfold saveT
  dsimp only
  rw [br_bne]
  refine ⟨fun hne => ?_, fun heq => ?_⟩
  · rw [if_neg hne]
    exact (vdone_ok st _).mono fun v h15 ⟨hv, st⟩ => ⟨_, hv, rfl, st.up2.drop⟩
  · rw [if_pos heq, heq]
    refine ⟨_, st.up2.row0 rfl, ?_⟩
    unfold Vv at st
    refine st.storeRow (i := 1) rfl (by simp) (by intro v hv; simp [Value.cells] at hv; rcases hv with rfl | rfl | rfl <;> rfl) fun h19 st => ⟨rfl, ?_⟩
    have st := st.up2.drop
    unfold Vv
    simpa [lay, Value.cells] using st
end
end Go.Proofs.Ytbmhphnidfpclaa
