/- Layer 7: DevicePlays. -/
import Derived.Test.Ytcjcbokgcgmegaa7g
import Derived.Test.YtcjcbokgcgmegaaFf
set_option linter.unusedVariables false
set_option maxRecDepth 100000
namespace Go.Proofs.Ytcjcbokgcgmegaa
open Go Go.Vc Go.Proofs
theorem row_ext {h h' : Heap} (e : Ext h h') {a : Addr} {n : Nat} {cs : Array Value} (hr : row h a n = some cs) : row h' a n = some cs := src_ext e (p := some a) hr
theorem awake7_end {h0 h : Heap} {l : List HP} (s : St h0 h l) : CallsH Try.prog n_law07_awake #[] h fun v h' => Ext h h' ∧ ∃ t, v = .bool t ∧ (Value.bool t = .bool true ∧ Ext h0 h') :=
  (awake7_ok h).mono fun v h7 ⟨hv, e⟩ => ⟨e, true, hv, rfl, s.ext.trans e⟩
theorem newD_q (n : Nat) : (newD n).queue.length = 0 := rfl
theorem readD_len {D : Dev} {n : Nat} (w : D.Wf n) (i : Int) : (readD D i).1.length ≤ 128 := by
  unfold readD
  split
  · rename_i hr
    obtain ⟨hd, h0, h1⟩ := reach_in w hr
    have hsl := w.seenLen
    have hlt : i.toNat < D.seen.length := by omega
    rw [List.getD_eq_getElem?_getD, List.getElem?_eq_getElem hlt]
    exact Nat.le_of_eq (w.seenPages _ (List.getElem_mem hlt))
  · exact Nat.zero_le _
theorem doD_len {D : Dev} {n : Nat} (w : D.Wf n) (o : OpS) : (doD D o).1.1.length ≤ 128 := by
  have h1 := readD_len w o.i
  unfold doD
  split; exact Nat.zero_le _
  split; exact Nat.zero_le _
  split; exact Nat.zero_le _
  split; exact Nat.zero_le _
  split
  · exact h1
  · exact Nat.zero_le _
namespace R
theorem devicePlays_ok {h : Heap} {p : Option Addr} {l c : Nat} {os : List OpS} (hf : Ops h p l os) (x : Nat) (hx : x < 256) :
    CallsH Try.prog n_law07_DevicePlays #[.int .u8 x, .slice p l c] h fun v h' => v = .bool true ∧ Ext h h' := by
  refine C_law07_DevicePlays x p l c ?_
  unfold F_law07_DevicePlays
  refine (awake7_ok h).mono fun v h1 ⟨hv, e1⟩ => ⟨e1, true, hv, br_no rfl ?_⟩
  have s := (St.start h).keep e1
  refine (few7_ok (hf.ext s.ext) 80).mono fun v h7 ⟨⟨t, hv, ht⟩, hh⟩ => ?_
  subst hh
  refine ⟨Ext.refl _, t, hv, ?_⟩
  cases t
  · exact br_yes rfl (awake7_end s)
  have hfew : os.length ≤ 80 := ht rfl
  have hlen := hf.len
  refine br_no rfl ⟨by omega, ?_⟩
  have hn13 : IntKind.wrap .i64 (Int.tmod (x : Int) 13) = ((x % 13 : Nat) : Int) := by
    rw [Int.tmod_eq_emod_of_nonneg (by omega), wrap_i64 (by omega) (by omega)]; omega
  rw [hn13]
  have hn12 : x % 13 < 13 := Nat.mod_lt _ (by omega)
  generalize x % 13 = n at *
  refine (new_ok _ n (by omega)).mono fun v h13 ⟨d, hv, nw⟩ => ⟨nw.ext, some (Addr.mk d 0 none), 0, hv, ?_⟩
  have s := s.join nw
  refine (rnew_ok s n (by omega)).mono fun v h17 ⟨r, hv, s⟩ => ⟨some (Addr.mk r 0 none), hv, br_no rfl ?_⟩
  refine (pages_ok s.up1.at).mono fun v h20 ⟨hv, hh⟩ => ?_
  subst hh
  have hnl : (newD n).lasts.length = n := by simp [newD]
  rw [hnl] at hv
  refine ⟨Ext.refl _, _, hv, br_no (by simp) ?_⟩
  refine ⟨fun i h' => ∃ (k : Nat) (D : Dev), i = k ∧ k ≤ l ∧ D.Wf n ∧ D.queue.length ≤ k ∧ St h h' [Rv r D, Dv d D], fun i _ => (l - i).toNat, ⟨0, _, rfl, Nat.zero_le _, newD_wf (by omega), Nat.le_refl _, s⟩, ?_⟩
  clear s
  rintro i h25 ⟨k, D, rfl, hk, w, hq, s⟩
  rw [br_decide]
  refine ⟨fun hlt => ⟨by omega, hlt, ?_⟩, fun hge => ⟨rfl, s.ext⟩⟩
  obtain ⟨b, o, q, ql, qc, lp, ll, lc, h2, rfl, hb, hl, hi1, _, _, _, hrow⟩ := hf.get (i := k) (by omega)
  simp only [deref_some, add_mk, Int.toNat_natCast]
  refine ⟨_, row_ext s.ext hrow, ?_⟩
  have wd := doD_wf (o := os[k]) w hi1
  have hdq := @doD_q D os[k]
  refine (do_ok s.up1 w (by omega) hb hl).mono fun v h29 ⟨p30, l31, c32, hv, s⟩ => ⟨p30, l31, c32, _, hv, by omega, hlt, ?_⟩
  refine ⟨_, row_ext s.ext hrow, ?_⟩
  refine (rdoOp_ok s.up2 w (by omega) hb hl).mono fun v h37 ⟨p38, l39, c40, hv, s, hb2⟩ => ⟨p38, l39, c40, _, hv, br_no (by simp) ?_⟩
  have hxl := doD_len w os[k]
  generalize doD D os[k] = DD at *
  obtain ⟨⟨xs, e⟩, D⟩ := DD
  dsimp only at *
  have hb1 := bs_rdo s.up2.at
  refine (same_ok hb1 hb2 (by have := hb1.1; omega)).mono fun v h43 ⟨hv, hh⟩ => ?_
  subst hh
  have s := s.up2.drop
  refine ⟨Ext.refl _, true, by rw [hv, decide_eq_true rfl], br_no rfl ?_⟩
  obtain ⟨LP, QP, rp, rc, rq, rqc, x1, x2, a1, _⟩ := Rv.at s.at
  simp only [Nat.zero_add]
  refine ⟨_, pts_cell a1 (i := 3) rfl, (down_ok s.up1.at).mono fun v h48 ⟨hv, hh⟩ => ?_⟩
  subst hh
  refine ⟨Ext.refl _, _, hv, br_no (by cases D.down <;> rfl) ⟨_, _, _, pts_cell a1 (i := 1) rfl, (waits_ok s.up1.at).mono fun v h55 ⟨hv, hh⟩ => ?_⟩⟩
  subst hh
  refine ⟨Ext.refl _, _, hv, br_no (by rw [x2, rQ_len]; simp) ?_⟩
  refine ⟨fun j h' => ∃ m : Nat, j = (m : Int) - 1 ∧ m ≤ n + 2 ∧ St h h' [Rv r D, Dv d D], fun j _ => (n + 1 - j).toNat, ⟨0, rfl, by omega, s⟩, ?_⟩
  clear s a1
  rintro j h60 ⟨m, rfl, hm, s⟩
  rw [br_decide]
  refine ⟨fun hle => ?_, fun hgt => ?_⟩
  · refine (read_ok s.up1.at wd _).mono fun v h62 ⟨p63, l64, c65, hv, nw⟩ => ⟨nw.ext, p63, l64, c65, _, hv, ?_⟩
    have s := s.join nw
    refine (rread_ok s.up1.at wd (by omega) _).mono fun v h68 ⟨⟨p69, l70, c71, hv, hb3⟩, hh⟩ => ?_
    subst hh
    refine ⟨Ext.refl _, p69, l70, c71, _, hv, br_no (by simp) ?_⟩
    have hb4 := bs_own s.at
    refine (same_ok hb4 hb3 (by have := hb4.1; have := readD_len wd ((m : Int) - 1); omega)).mono fun v h74 ⟨hv, hh⟩ => ?_
    subst hh
    refine ⟨Ext.refl _, true, by rw [hv, decide_eq_true rfl], br_no rfl ?_⟩
    rw [wrap_i64 (by omega) (by omega)]
    exact ⟨⟨m + 1, by omega, by omega, s.drop⟩, by show ((n : Int) + 1 - ((m : Int) - 1 + 1)).toNat < ((n : Int) + 1 - ((m : Int) - 1)).toNat; omega⟩
  · rw [wrap_i64 (by omega) (by omega)]
    exact ⟨⟨k + 1, D, by omega, by omega, wd, by omega, s⟩, by omega⟩
end R
end Go.Proofs.Ytcjcbokgcgmegaa
