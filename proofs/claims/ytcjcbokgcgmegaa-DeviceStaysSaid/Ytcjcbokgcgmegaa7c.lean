/- Laws of layer 7 that ask no reference. -/
import Derived.Test.Ytcjcbokgcgmegaa7b
import Derived.Test.YtcjcbokgcgmegaaFe
set_option linter.unusedVariables false
set_option maxRecDepth 100000
namespace Go.Proofs.Ytcjcbokgcgmegaa
open Go Go.Vc Go.Proofs
section
variable {h0 h : Heap} {F : List HP} {b n : Nat} {D : Dev}

theorem awake7_ok (h : Heap) : CallsH Try.prog n_law07_awake #[] h fun v h' => v = .bool true ∧ Ext h h' := by
  refine C_law07_awake ?_
  unfold F_law07_awake
  refine (new_ok h 2 (by omega)).mono fun v h1 ⟨b, hv, nw⟩ => ⟨nw.ext, some (Addr.mk b 0 none), 0, hv, br_yes rfl (br_yes rfl ?_)⟩
  refine (pages_ok nw.st.at).mono fun v h2 ⟨hv, hh⟩ => ?_
  subst hh
  refine ⟨Ext.refl _, 2, hv, br_yes rfl ((down_ok nw.st.at).mono fun v h2 ⟨hv, hh⟩ => ?_)⟩
  subst hh
  exact ⟨Ext.refl _, false, hv, rfl, nw.ext⟩
theorem deviceNil_ok (pages i : Int) : CallsH Try.prog n_law07_DeviceNil #[.int .i64 pages, .int .i64 i] h fun v h' => v = .bool true ∧ Ext h h' := by
  refine C_law07_DeviceNil pages i ?_
  unfold F_law07_DeviceNil
  refine (setFuse_nil h i).mono fun v h1 ⟨hv, hh⟩ => ⟨hv, ?_⟩
  subst hh
  refine (St.start h1).newBlk fun b2 h3 _ _ e3 => ?_
  refine (restart_nil h3 _ _ _).mono fun v h5 ⟨hv, hh⟩ => ⟨hv, ?_⟩
  subst hh
  refine (read_nil h5 i).mono fun v h7 ⟨hv, hh⟩ => ?_
  subst hh
  refine ⟨Ext.refl _, none, 0, 0, 6, hv, (awake7_ok h7).mono fun v h13 ⟨hv, e13⟩ => ⟨e13, true, hv, br_no rfl ?_⟩⟩
  refine (pages_nil h13).mono fun v h16 ⟨hv, hh⟩ => ?_
  subst hh
  refine ⟨Ext.refl _, 0, hv, br_no rfl ((down_nil h16).mono fun v h19 ⟨hv, hh⟩ => ?_)⟩
  subst hh
  refine ⟨Ext.refl _, true, hv, br_no rfl ((waits_nil h19).mono fun v h22 ⟨hv, hh⟩ => ?_)⟩
  subst hh
  refine ⟨Ext.refl _, 0, hv, br_no rfl (br_no rfl (br_no rfl ((write_nil h22 i none 0 0).mono fun v h25 ⟨hv, hh⟩ => ?_)))⟩
  subst hh
  refine ⟨6, hv, br_no rfl ((flush_nil h25).mono fun v h28 ⟨hv, hh⟩ => ?_)⟩
  subst hh
  have e := e3.trans e13
  refine ⟨6, hv, br_no rfl ?_⟩
  have bad : ¬(0 ≤ pages ∧ pages ≤ 4096) → CallsH Try.prog n_device_New #[.int .i64 pages] h28 fun v30 h31 => Ext h28 h31 ∧ ∃ (p32 : Option Addr) (n33 : Int), v30 = .tuple #[.pointer p32, .int .i64 n33] ∧ br (Option.isNone p32) (Value.bool (n33 == 1) = .bool true ∧ Ext h1 h31) (Value.bool false = .bool true ∧ Ext h1 h31) := by
    intro hx
    refine (new_bad h28 hx).mono fun v h31 ⟨hv, hh⟩ => ?_
    subst hh
    exact ⟨Ext.refl _, none, 1, hv, br_yes rfl ⟨rfl, e⟩⟩
  rw [br_decide]
  refine ⟨fun hp => ?_, fun hp => bad (by omega)⟩
  rw [br_decide]
  exact ⟨fun hq => ⟨rfl, e⟩, fun hq => bad (by omega)⟩

/- ### What a device answers -/
theorem opD_pos (h : 0 < D.fuse) : opD D = { D with fuse := D.fuse - 1 } := by rw [opD, if_neg (by omega), if_pos h]
theorem opD_neg (h : D.fuse < 0) : opD D = D := by rw [opD, if_neg (by omega), if_neg (by omega)]
theorem opD_zero (h : D.fuse = 0) : opD D = { D with down := true } := by rw [opD, if_pos h]
theorem reach_down (h : D.down = true) (i : Int) : reachE D i = 6 := by rw [reachE, if_pos h]
theorem reach_zero {i : Nat} (w : D.Wf n) (hd : D.down = false) (hi : i < n) : reachE D i = 0 := by
  have := w.len
  rw [reachE, if_neg (by simp [hd]), if_neg (by omega)]
theorem reach_out {i : Int} (w : D.Wf n) (hd : D.down = false) (hi : i < 0 ∨ n ≤ i) : reachE D i = 4 := by
  have := w.len
  rw [reachE, if_neg (by simp [hd]), if_pos (by omega)]
theorem writeD_one {i : Nat} {xs : List UInt8} (w : D.Wf n) (hd : D.down = false) (hi : i < n) (hx : xs.length ≠ 128) : writeD D i xs = (1, D) := by
  rw [writeD, if_neg (by simpa using reach_zero w hd hi), if_pos hx]
theorem writeD_zero {i : Nat} {xs : List UInt8} (w : D.Wf n) (hd : D.down = false) (hi : i < n) (hx : xs.length = 128) (ho : (opD D).down = false) : writeD D i xs = (0, { opD D with queue := D.queue ++ [(i, xs)] }) := by
  rw [writeD, if_neg (by simpa using reach_zero w hd hi), if_neg (by omega), if_neg (by simp [ho]), Int.toNat_natCast]
theorem flushD_zero (hd : D.down = false) (ho : (opD D).down = false) : flushD D = (0, { opD D with lasts := D.seen, queue := [] }) := by
  rw [flushD, if_neg (by simp [hd]), if_neg (by simp [ho])]
theorem _root_.Go.Vc.St.rdNil (hs : St h0 h F) (sz : Nat) : St h0 h (rdo sz none 0 [] :: F) := hs.add fun m => ⟨by simp, .inl (by simp)⟩
theorem zeros_bcs : List.replicate (128 * 1) (Value.int .u8 0) = bcs (List.replicate 128 0) := by rw [bcs_replicate]; rfl
theorem make128 {K : Nat → Heap → Prop} (hs : St h0 h F) (hk : ∀ b h', St h0 h' (own 1 (some (Addr.mk b 0 none)) 128 128 (bcs (List.replicate 128 0)) :: F) → K b h') : makeP 5 1 1 #[Value.int .u8 0] 128 128 h K :=
  hs.make (l := 128) (c := 128) (z := .int .u8 0) rfl (by omega) (Nat.le_refl _) (by unfold maxLen; omega) (by omega) fun b h' s => hk b h' (by rw [zeros_bcs] at s; exact s)

theorem deviceFuse_ok (n : Nat) (hn : n < 256) : CallsH Try.prog n_law07_DeviceFuse #[.int .u8 n] h fun v h' => v = .bool true ∧ Ext h h' := by
  refine C_law07_DeviceFuse n ?_
  unfold F_law07_DeviceFuse
  refine (new_ok h 3 (by omega)).mono fun v h1 ⟨b, hv, nw⟩ => ⟨nw.ext, some (Addr.mk b 0 none), 0, hv, ?_⟩
  have s := nw.st
  refine (awake7_ok h1).mono fun v h5 ⟨hv, e5⟩ => ⟨e5, true, hv, br_no rfl (br_no rfl ?_)⟩
  have s := s.keep e5
  rw [wrap_i64 (by omega) (by omega)]
  refine (setFuse_ok s n).mono fun v h8 ⟨hv, s⟩ => ⟨hv, ?_⟩
  refine ⟨fun i h' => ∃ (k : Nat) (D : Dev), i = k ∧ k ≤ n ∧ D.Wf 3 ∧ D.down = false ∧ D.fuse = n - k ∧ D.queue.length ≤ k ∧ St h h' [Dv b D], fun i _ => (n - i).toNat, ⟨0, _, rfl, Nat.zero_le _, fuseD_wf (newD_wf (by omega)) (by omega), rfl, ?_, Nat.le_refl _, s⟩, ?_⟩
  · show max (n : Int) (-1) = n - 0
    omega
  clear s
  rintro i h12 ⟨k, D, rfl, hk, w, hd, hf, hq, s⟩
  rw [br_decide]
  refine ⟨fun hlt => ?_, fun hge => ?_⟩
  · have hr3 : reachE D 3 = 4 := reach_out w hd (.inr (by omega))
    have w3 : writeD D 3 [] = (4, D) := by rw [writeD, if_pos (by rw [hr3]; omega), hr3]
    have w0 : writeD D 0 [] = (1, D) := writeD_one (i := 0) w hd (by omega) (by simp)
    refine (write_ok (xs := []) (p := none) (l := 0) (c := 0) ((s.rdNil 1).up1) w 3 (by omega)).mono fun v h14 ⟨hv, s⟩ => ?_
    rw [w3] at hv s
    dsimp only at hv s
    refine ⟨4, hv, br_no rfl ?_⟩
    refine (write_ok (xs := []) (p := none) (l := 0) (c := 0) s w 0 (by omega)).mono fun v h17 ⟨hv, s⟩ => ?_
    rw [w0] at hv s
    dsimp only at hv s
    refine ⟨1, hv, br_no rfl ?_⟩
    have s := s.up1.drop
    refine (down_ok s.at).mono fun v h20 ⟨hv, hh⟩ => ?_
    subst hh
    rw [hd] at hv
    refine ⟨Ext.refl _, false, hv, br_no rfl ⟨by omega, ?_⟩⟩
    have ho : opD D = { D with fuse := D.fuse - 1 } := opD_pos (by omega)
    have hod : (opD D).down = false := by rw [ho]; exact hd
    have htm : Int.tmod (k : Int) 3 = ((k % 3 : Nat) : Int) := by rw [Int.tmod_eq_emod_of_nonneg (by omega)]; omega
    rw [htm, br_beq]
    have hfd := flushD_zero hd hod
    refine ⟨fun h2 => ?_, fun h2 => ⟨by omega, ?_⟩⟩
    · refine (flush_ok s w (by omega)).mono fun v h23 ⟨hv, s⟩ => ?_
      have wf := flushD_wf w
      rw [hfd] at hv s wf
      refine ⟨0, hv, br_no rfl ⟨by omega, ?_⟩⟩
      rw [br_decide]
      refine ⟨fun hx => by omega, fun _ => ?_⟩
      rw [wrap_i64 (by omega) (by omega)]
      refine ⟨⟨k + 1, _, by omega, by omega, wf, hod, by rw [ho]; show D.fuse - 1 = _; omega, Nat.zero_le _, s⟩, by show ((n : Int) - ((k : Int) + 1)).toNat < ((n : Int) - (k : Int)).toNat; omega⟩
    · rw [br_decide]
      refine ⟨fun hx => ⟨by omega, ?_⟩, fun hx => by omega⟩
      refine make128 s fun b30 h31 s => ?_
      have wz := writeD_zero (i := k % 3) (xs := List.replicate 128 0) w hd (by omega) (by simp) hod
      have wf := writeD_wf w ((k % 3 : Nat) : Int) (List.replicate 128 0)
      refine (write_ok s.ro.up1 w _ (by omega)).mono fun v h33 ⟨hv, s⟩ => ?_
      rw [wz] at hv s wf
      dsimp only at hv s
      refine ⟨0, hv, br_no rfl ?_⟩
      rw [wrap_i64 (by omega) (by omega)]
      refine ⟨⟨k + 1, _, by omega, by omega, wf, hod, by rw [ho]; show D.fuse - 1 = _; omega, by simp; omega, s.up1.drop⟩, by show ((n : Int) - ((k : Int) + 1)).toNat < ((n : Int) - (k : Int)).toNat; omega⟩
  · have hkn : k = n := by omega
    subst hkn
    have ho : opD D = { D with down := true } := opD_zero (by omega)
    have hfd : flushD D = (6, { D with down := true }) := by rw [flushD, if_neg (by simp [hd]), if_pos (by rw [ho]), ho]
    have wf := flushD_wf w
    refine (flush_ok s w (by omega)).mono fun v h36 ⟨hv, s⟩ => ?_
    rw [hfd] at hv s wf
    refine ⟨6, hv, ?_⟩
    have hr : reachE { D with down := true } 0 = 6 := reach_down rfl 0
    have hrd : readD { D with down := true } 0 = ([], 6) := by rw [readD, if_neg (by rw [hr]; omega), hr]
    refine (read_ok s.at wf 0).mono fun v h39 ⟨p, l, c, hv, nw⟩ => ?_
    rw [hrd] at hv
    refine ⟨nw.ext, p, l, c, 6, hv, ?_⟩
    have s := s.keep nw.ext
    refine make128 s fun b44 h45 s => ?_
    have hwd : writeD { D with down := true } 0 (List.replicate 128 0) = (6, { D with down := true }) := by rw [writeD, if_pos (by rw [hr]; omega), hr]
    refine (write_ok s.ro.up1 wf 0 (by simpa using (by omega))).mono fun v h47 ⟨hv, s⟩ => ?_
    rw [hwd] at hv s
    dsimp only at hv s
    refine ⟨6, hv, ?_⟩
    have s := s.up1.drop
    refine (down_ok s.at).mono fun v h50 ⟨hv, hh⟩ => ?_
    subst hh
    refine ⟨Ext.refl _, true, hv, ?_⟩
    refine (restart_ok (list := []) (lp := none) (ll := 0) (lc := 0) (s.rdNil 1).up1 wf (by simpa using (by omega))).mono fun v h53 ⟨hv, s⟩ => ⟨hv, ?_⟩
    refine br_yes rfl (br_yes rfl (br_yes rfl (br_yes rfl ?_)))
    have wr := restartD_wf wf []
    refine (down_ok s.at).mono fun v h55 ⟨hv, hh⟩ => ?_
    subst hh
    refine ⟨Ext.refl _, false, hv, br_yes rfl ?_⟩
    refine (flush_ok s wr (by simp [restartD])).mono fun v h58 ⟨hv, s⟩ => ?_
    have hf2 : (flushD (restartD { D with down := true } [])).1 = 0 := by rw [flushD_zero rfl (by rw [opD_neg (by show (-1 : Int) < 0; omega)]; rfl)]
    rw [hf2] at hv
    exact ⟨0, hv, rfl, s.ext⟩
end
end Go.Proofs.Ytcjcbokgcgmegaa
