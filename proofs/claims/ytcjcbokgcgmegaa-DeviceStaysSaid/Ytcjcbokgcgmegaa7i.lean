/- Layer 7: DeviceStays. -/
import Derived.Test.Ytcjcbokgcgmegaa7h
set_option linter.unusedVariables false
set_option maxRecDepth 100000
namespace Go.Proofs.Ytcjcbokgcgmegaa
open Go Go.Vc Go.Proofs
def bcl (L : List Bool) : List Value := L.map Value.bool
theorem bcl_length (L : List Bool) : (bcl L).length = L.length := by simp [bcl]
theorem bcl_set (L : List Bool) (i : Nat) (t : Bool) : (bcl L).set i (.bool t) = bcl (L.set i t) := by simp [bcl, List.map_set]
theorem bcl_get {L : List Bool} {i : Nat} (hi : i < L.length) : (bcl L)[i]? = some (.bool L[i]) := by simp [bcl, hi]
theorem bcl_one (L : List Bool) : ∀ v ∈ bcl L, v.oneCell' = true := fun v hv => by
  obtain ⟨t, _, rfl⟩ := List.mem_map.1 hv
  rfl
/-- What waits is marked. -/
def Marks (D : Dev) (L : List Bool) : Prop := L.length = 12 ∧ D.down = false ∧ D.fuse = -1 ∧ ∀ w ∈ D.queue, L.getD w.1 false = true
theorem restL_stays : ∀ (Q : List (Nat × List UInt8)) (L : List (List UInt8)) (list : List Int) (i : Nat), (∀ w ∈ Q, w.1 ≠ i) → (restL L Q list).getD i [] = L.getD i []
  | [], L, _, i, _ => rfl
  | w :: Q, L, list, i, h => by
    have hw := h w (List.mem_cons_self ..)
    have e : ∀ x, (L.set w.1 x).getD i [] = L.getD i [] := fun x => by
      rw [List.getD_eq_getElem?_getD, List.getElem?_set_ne hw, ← List.getD_eq_getElem?_getD]
    cases list with
    | nil => rw [restL, restL_stays Q _ [] i fun x hx => h x (List.mem_cons_of_mem _ hx), e]
    | cons t ts => rw [restL, restL_stays Q _ ts i fun x hx => h x (List.mem_cons_of_mem _ hx), e]
theorem applyQ_stays {Q : List (Nat × List UInt8)} {L : List (List UInt8)} {i : Nat} (h : ∀ w ∈ Q, w.1 ≠ i) : (applyQ L Q).getD i [] = L.getD i [] := by
  have := seen_none (L := L) (Q := Q) (i := i) (fun j hj => h _ (List.getElem_mem hj)) Q.length (Nat.le_refl _)
  rwa [List.take_length] at this
theorem set_true (L : List Bool) (i j : Nat) (h : L.getD j false = true) : (L.set i true).getD j false = true := by
  rw [List.getD_eq_getElem?_getD] at h ⊢
  rw [List.getElem?_set]
  split
  · rename_i e
    split
    · rfl
    · rw [List.getElem?_eq_none (by omega)] at h; cases h
  · exact h
theorem set_self (L : List Bool) (i : Nat) (hi : i < L.length) : (L.set i true).getD i false = true := by
  rw [List.getD_eq_getElem?_getD, List.getElem?_set_self hi]; rfl
theorem writeD_stays {D : Dev} {n : Nat} (w : D.Wf n) (hd : D.down = false) (hf : D.fuse = -1) (i : Int) (xs : List UInt8) :
    ((writeD D i xs).1 ≠ 0 ∧ (writeD D i xs).2 = D) ∨ ((writeD D i xs).1 = 0 ∧ ∃ j : Nat, i = j ∧ j < n ∧ (writeD D i xs).2 = { D with queue := D.queue ++ [(j, xs)] }) := by
  have ho : opD D = D := opD_neg (by omega)
  unfold writeD
  split
  · rename_i hr
    exact .inl ⟨hr, rfl⟩
  · rename_i hr
    split
    · exact .inl ⟨by simp, rfl⟩
    · rw [ho, if_neg (by simp [hd])]
      obtain ⟨_, h1, h2⟩ := reach_in w (by simpa using hr)
      exact .inr ⟨rfl, i.toNat, by omega, by omega, rfl⟩
theorem deviceStays_ok {h : Heap} {p lp : Option Addr} {l c ll lc : Nat} {os : List OpS} {list : List Int} (hf : Ops h p l os) (hl : Rd h 1 lp ll (list.map (Value.int .i64))) :
    CallsH Try.prog n_law07_DeviceStays #[.slice p l c, .slice lp ll lc] h fun v h' => v = .bool true ∧ Ext h h' := by
  refine C_law07_DeviceStays p l c lp ll lc ?_
  unfold F_law07_DeviceStays
  refine (awake7_ok h).mono fun v h1 ⟨hv, e1⟩ => ⟨e1, true, hv, br_no rfl ?_⟩
  have s := (St.start h).keep e1
  refine (few7_ok (hf.ext s.ext) 80).mono fun v h7 ⟨⟨t, hv, ht⟩, hh⟩ => ?_
  subst hh
  refine ⟨Ext.refl _, t, hv, ?_⟩
  cases t
  · exact br_yes rfl (awake7_end s)
  have hfew : os.length ≤ 80 := ht rfl
  have hlen := hf.len
  refine br_no rfl ?_
  rw [br_decide]
  refine ⟨fun _ => awake7_end s, fun h200 => ?_⟩
  refine (new_ok _ 12 (by omega)).mono fun v h16 ⟨d, hv, nw⟩ => ⟨nw.ext, some (Addr.mk d 0 none), 0, hv, ?_⟩
  have s := s.join nw
  refine s.newBlk fun bw h20 _ s _ => ?_
  refine ⟨fun i h' => ∃ (k : Nat) (D : Dev) (L : List Bool), i = k ∧ k ≤ l ∧ D.Wf 12 ∧ D.queue.length ≤ k ∧ Marks D L ∧ St h h' [pts bw 0 false (bcl L), Dv d D], fun i _ => (l - i).toNat,
    ⟨0, _, List.replicate 12 false, rfl, Nat.zero_le _, newD_wf (by omega), Nat.le_refl _, ⟨by simp, rfl, rfl, by simp [newD]⟩, s⟩, ?_⟩
  clear s
  rintro i h24 ⟨k, D, L, rfl, hk, w, hq, ⟨hL, hd, hfu, hm⟩, s⟩
  rw [br_decide]
  refine ⟨fun hlt => ⟨by omega, hlt, ?_⟩, fun hge => ?_⟩
  · obtain ⟨b, o, q, ql, qc, lp', ll', lc', h2, rfl, hb, hl', hi1, _, _, _, hrow⟩ := hf.get (i := k) (by omega)
    simp only [deref_some, add_mk, Int.toNat_natCast]
    refine ⟨_, row_ext s.ext hrow, s.newBlk fun b27 h28 _ s _ => s.storeAll (by simp) (by simp) (by
      intro v hv
      simp at hv
      rcases hv with h | h | h | h <;> subst h <;> rfl) fun h29 s => ?_⟩
    simp only [Nat.zero_add, Nat.add_zero]
    have wd := doD_wf (o := os[k]) w hi1
    have hdq := @doD_q D os[k]
    have hlk : (k : Int) + 1 ≤ 1000 := by omega
    rw [wrap_i64 (by omega) (by omega)]
    refine ⟨os[k].k, s.cell0 (i := 0) rfl, ?_⟩
    have hod : opD D = D := opD_neg (by omega)
    have next : ∀ {h' : Heap} {D' : Dev} {L' : List Bool}, D'.Wf 12 → D'.queue.length ≤ D.queue.length + 1 → Marks D' L' → St h h' [pts bw 0 false (bcl L'), Dv d D'] →
        (∃ (k_1 : Nat) (D : Dev) (L : List Bool), (k : Int) + 1 = k_1 ∧ k_1 ≤ l ∧ D.Wf 12 ∧ D.queue.length ≤ k_1 ∧ Marks D L ∧ St h h' [pts bw 0 false (bcl L), Dv d D]) ∧ ((l : Int) - ((k : Int) + 1)).toNat < ((l : Int) - (k : Int)).toNat :=
      fun w' hq' m' s' => ⟨⟨k + 1, _, _, by omega, by omega, w', by omega, m', s'⟩, by omega⟩
    rw [br_beq]
    refine ⟨fun _ => next w (by omega) ⟨hL, hd, hfu, hm⟩ s.drop, fun hn3 => ⟨_, s.row0 (by simp), ?_⟩⟩
    refine (do_ok s.up2 w (by omega) hb hl').mono fun v h33 ⟨p34, l35, c36, hv, s⟩ => ⟨p34, l35, c36, _, hv, ?_⟩
    have s := s.up1.drop.up1
    refine ⟨os[k].k, s.cell0 (i := 0) rfl, ?_⟩
    have hzero : (List.replicate 12 (Value.bool false)).toArray = (bcl (List.replicate 12 false)).toArray := by simp [bcl]
    have hempty : ∀ D' : Dev, D'.queue = [] → D'.down = false → D'.fuse = -1 → Marks D' (List.replicate 12 false) := fun D' h1 h2 h3 => ⟨by simp, h2, h3, by simp [h1]⟩
    have keep : ∀ {h' : Heap}, os[k].k ≠ 1 → os[k].k ≠ 2 → os[k].k ≠ 4 → St h h' [pts bw 0 false (bcl L), Dv d (doD D os[k]).2] → _ := fun n1 n2 n4 s' => next (D' := D) (L' := L) w (by omega) ⟨hL, hd, hfu, hm⟩ (by
      have e : (doD D os[k]).2 = D := by
        unfold doD
        rw [if_neg n1, if_neg n2, if_neg hn3, if_neg n4]
        split <;> rfl
      rw [e] at s'
      exact s')
    have wipe : ∀ {h' : Heap} {K : Heap → Prop}, os[k].k ≠ 1 → (os[k].k = 2 ∨ os[k].k = 4) → St h h' [pts b27 0 false [.int .i64 os[k].k, .int .i64 os[k].i, .slice q ql qc, .slice lp' ll' lc'], Dv d (doD D os[k]).2, pts bw 0 false (bcl L)] →
        (∀ h2, St h h2 [pts bw 0 false (bcl (List.replicate 12 false)), Dv d (doD D os[k]).2] ∧ Marks (doD D os[k]).2 (List.replicate 12 false) → K h2) → storeP (some 12) h' (Addr.mk bw 0 none) (Value.agg (List.replicate 12 (Value.bool false)).toArray) K := by
      intro h' K n1 h24 s hK
      rw [hzero]
      refine s.up2.storeAll (by rw [bcl_length, hL]) (by simp [bcl]) (one_list (bcl_one _)) fun h2 s => hK h2 ⟨s.up1.drop, ?_⟩
      rcases h24 with h | h
      · have e : (doD D os[k]).2 = (flushD D).2 := by unfold doD; rw [if_neg n1, if_pos h]
        rw [e, flushD_zero hd (by rw [hod]; exact hd), hod]
        exact hempty _ rfl hd hfu
      · have e : (doD D os[k]).2 = restartD D os[k].list := by unfold doD; rw [if_neg n1, if_neg (by omega), if_neg hn3, if_pos h]
        rw [e]
        exact hempty _ rfl rfl rfl
    rw [br_beq]
    refine ⟨fun e1 => ?_, fun n1 => ⟨_, s.cell0 (i := 0) rfl, ?_⟩⟩
    · have e : doD D os[k] = (([], (writeD D os[k].i os[k].b).1), (writeD D os[k].i os[k].b).2) := by rw [doD, if_pos e1]
      rw [e] at s wd hdq ⊢
      dsimp only at s wd hdq ⊢
      rw [br_beq]
      have hst := writeD_stays w hd hfu os[k].i os[k].b
      refine ⟨fun h0 => ⟨_, s.cell0 (i := 1) rfl, ?_⟩, fun hn0 => ⟨_, s.cell0 (i := 0) rfl, ?_⟩⟩
      · rcases hst with ⟨h, _⟩ | ⟨_, j, hj, hj12, hw2⟩
        · exact absurd h0 h
        rw [hw2] at s wd hdq
        rw [hj]
        refine ⟨by omega, by omega, ?_⟩
        simp only [Int.toNat_natCast, Nat.mul_one]
        refine s.up2.store0 (by rw [bcl_length]; omega) rfl fun h40 s => ?_
        rw [bcl_set] at s
        refine ⟨_, s.up1.cell0 (i := 0) rfl, ?_⟩
        rw [br_beq]
        refine ⟨fun h => by omega, fun _ => ⟨_, s.up1.cell0 (i := 0) rfl, ?_⟩⟩
        rw [br_beq]
        refine ⟨fun h => by omega, fun _ => next wd hdq ⟨by simp [hL], hd, hfu, ?_⟩ s.up1.drop⟩
        intro x hx
        rcases List.mem_append.1 hx with h | h
        · exact set_true _ _ _ (hm x h)
        · simp only [List.mem_singleton] at h
          subst h
          exact set_self _ _ (by omega)
      · rcases hst with ⟨_, hw2⟩ | ⟨h, _⟩
        · rw [hw2] at s
          rw [br_beq]
          refine ⟨fun h => by omega, fun _ => ⟨_, s.cell0 (i := 0) rfl, ?_⟩⟩
          rw [br_beq]
          exact ⟨fun h => by omega, fun _ => next w (by omega) ⟨hL, hd, hfu, hm⟩ s.drop.up1⟩
        · exact absurd h hn0
    · rw [br_beq]
      refine ⟨fun e2 => wipe n1 (.inl e2) s fun h2 ⟨s, m⟩ => next wd hdq m s, fun n2 => ⟨_, s.cell0 (i := 0) rfl, ?_⟩⟩
      rw [br_beq]
      exact ⟨fun e4 => wipe n1 (.inr e4) s fun h2 ⟨s, m⟩ => next wd hdq m s, fun n4 => keep n1 n2 n4 s.drop.up1⟩
  · have readOk : ∀ {D : Dev}, D.Wf 12 → D.down = false → ∀ m : Nat, m < 12 → readD D m = (D.seen.getD m [], 0) := fun w hd m hm => by rw [readD, if_pos (reach_zero w hd hm), Int.toNat_natCast]
    refine ⟨fun st h' => ∃ (m : Nat) (AP : List Pg), st.2 = m ∧ m ≤ 12 ∧ AP.length = m ∧ (∀ i, i < m → (rL AP).getD i [] = D.seen.getD i []) ∧ St h h' [own 1 st.1.1 st.1.2.1 st.1.2.2 (AP.map (·.1.v)), rds AP, pts bw 0 false (bcl L), Dv d D], fun st _ => (12 - st.2).toNat,
      ⟨0, [], rfl, by omega, rfl, fun i hi => by omega, (s.rdsNil).nil 1⟩, ?_⟩
    clear s
    rintro ⟨⟨sp, sl, sc⟩, i⟩ h56 ⟨m, AP, rfl, hm12, hAP, hsame, s⟩
    dsimp only at *
    have hsl : sl = m := by
      have := s.len.1
      simp at this
      omega
    subst hsl
    rw [br_decide]
    refine ⟨fun hlt => ?_, fun hge => ?_⟩
    · have hlt12 : sl < 12 := by omega
      refine (read_ok s.up3.at w sl).mono fun v h58 ⟨p59, l60, c61, hv, nw⟩ => ⟨nw.ext, p59, l60, c61, _, hv, ?_⟩
      rw [readOk w hd sl hlt12] at nw
      dsimp only at nw
      have s := s.join nw
      simp only [List.cons_append, List.nil_append] at s
      refine s.newBlk fun b63 h64 _ s _ => ?_
      refine St.append (xs := [Sl.v (p59, l60, c61)]) s.up2 ⟨rfl, by simp only [src, Nat.one_mul]; exact s.row0 rfl⟩ (by intro v hv; simp only [List.mem_singleton] at hv; subst hv; rfl) rfl (by omega) (by unfold maxLen; omega) fun p65 c67 h68 s _ => ?_
      rw [wrap_i64 (by omega) (by omega)]
      have s := ((s.up2.ro.rdsOf c61).up3.rdsJoin).up2.drop.up1
      refine ⟨⟨sl + 1, AP ++ [((p59, l60, c61), D.seen.getD sl [])], by omega, by omega, by simp [hAP], fun i hi => ?_, ?_⟩, by omega⟩
      · by_cases h : i < sl
        · rw [← hsame i h, rL, List.map_append, List.getD_eq_getElem?_getD, List.getElem?_append_left (by simp [hAP]; exact h), ← List.getD_eq_getElem?_getD]; rfl
        · have : i = sl := by omega
          subst this
          rw [rL, List.map_append, List.getD_eq_getElem?_getD, List.getElem?_append_right (by simp [hAP])]
          simp [hAP]
      · simp only [List.map_append, List.map_cons, List.map_nil]
        exact s
    · have h12 : sl = 12 := by omega
      subst h12
      have s := (s.old hl).up4
      refine (restart_ok s w (by omega)).mono fun v h70 ⟨hv, s⟩ => ⟨hv, ?_⟩
      have wr := restartD_wf w list
      have hdr : (restartD D list).down = false := rfl
      have hqr : (restartD D list).queue = [] := rfl
      have hsr : (restartD D list).seen = restL D.lasts D.queue list := rfl
      generalize restartD D list = D2 at *
      refine ⟨fun i h' => ∃ m : Nat, i = m ∧ m ≤ 12 ∧ St h h' [own 1 sp 12 sc (AP.map (·.1.v)), rds AP, pts bw 0 false (bcl L), Dv d D2], fun i _ => (12 - i).toNat, ⟨0, rfl, by omega, ?_⟩, ?_⟩
      · exact s.up1.drop.dn3
      clear s
      rintro i h74 ⟨m, rfl, hm', s⟩
      rw [br_decide]
      refine ⟨fun hlt => ?_, fun _ => ?_⟩
      · have hm12 : m < 12 := by omega
        refine (read_ok s.up3.at wr m).mono fun v h76 ⟨p77, l78, c79, hv, nw⟩ => ⟨nw.ext, p77, l78, c79, 0, ?_, br_no rfl ⟨by omega, by omega, ?_⟩⟩
        · rw [hv, readOk wr hdr m hm12]
        rw [readOk wr hdr m hm12] at nw
        dsimp only at nw
        have s := s.join nw
        simp only [List.cons_append, List.nil_append] at s
        simp only [Nat.zero_add, add_mk, Nat.mul_one, Int.toNat_natCast]
        refine ⟨_, s.up3.cell0 (bcl_get (by omega)), ?_⟩
        rw [wrap_i64 (by omega) (by omega)]
        cases ht : L[m]
        · refine br_yes rfl ⟨by omega, by omega, ?_⟩
          obtain ⟨a, rfl, hc⟩ := (rd_own s.up1.at).cell (i := m) (by simp; omega)
          rw [List.getElem_map] at hc
          simp only [deref_some]
          refine ⟨_, _, _, hc, ?_⟩
          have hno : ∀ w ∈ D.queue, w.1 ≠ m := fun w hw e => by
            have := hm w hw
            rw [e, List.getD_eq_getElem?_getD, List.getElem?_eq_getElem (by omega), ht] at this
            cases this
          have e1 : D2.seen.getD m [] = D.seen.getD m [] := by
            rw [hsr, restL_stays _ _ _ _ hno, Dev.seen, applyQ_stays hno]
          have e2 := hsame m (by omega)
          have e3 : AP[m].2 = D2.seen.getD m [] := by
            rw [e1, ← e2, List.getD_eq_getElem?_getD, List.getElem?_eq_getElem (by rw [rL_len]; omega)]
            simp [rL]
          have hb1 := bs_own s.at
          have hb2 := rds_get s.up2.at (e := AP[m]) (List.getElem_mem _)
          rw [e3] at hb2
          refine (same_ok hb1 hb2 (by
            have := hb1.1
            have h2 := readD_len wr m
            rw [readOk wr hdr m hm12] at h2
            dsimp only at h2
            omega)).mono fun v h87 ⟨hv, hh⟩ => ?_
          subst hh
          exact ⟨Ext.refl _, true, by rw [hv, decide_eq_true rfl], br_no rfl ⟨⟨m + 1, by omega, by omega, s.drop⟩, by show (12 - ((m : Int) + 1)).toNat < (12 - (m : Int)).toNat; omega⟩⟩
        · exact br_no rfl ⟨⟨m + 1, by omega, by omega, s.drop⟩, by show (12 - ((m : Int) + 1)).toNat < (12 - (m : Int)).toNat; omega⟩
      · refine (waits_ok s.up3.at).mono fun v h90 ⟨hv, hh⟩ => ?_
        subst hh
        rw [hqr] at hv
        exact ⟨Ext.refl _, _, hv, rfl, s.ext⟩
end Go.Proofs.Ytcjcbokgcgmegaa
