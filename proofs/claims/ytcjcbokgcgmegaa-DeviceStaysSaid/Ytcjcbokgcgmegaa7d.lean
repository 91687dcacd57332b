/- Layer 7: DeviceWhole. -/
import Derived.Test.Ytcjcbokgcgmegaa7c
set_option linter.unusedVariables false
set_option maxRecDepth 100000
namespace Go.Proofs.Ytcjcbokgcgmegaa
open Go Go.Vc Go.Proofs

theorem mixed_whole {was b : List UInt8} (h1 : was.length = 128) (h2 : b.length = 128) : mixed was b 128 = b := by
  unfold mixed
  have : (min (max (128 : Int) 0) 128).toNat = 128 := rfl
  rw [this, List.take_of_length_le (by omega), List.drop_of_length_le (by omega), List.append_nil]
theorem mixed_none {was b : List UInt8} : mixed was b 0 = was := by
  unfold mixed
  have : (min (max (0 : Int) 0) 128).toNat = 0 := rfl
  rw [this, List.take_zero, List.drop_zero, List.nil_append]
theorem set_getD (L : List (List UInt8)) (i : Nat) : L.set i (L.getD i []) = L := by
  apply List.ext_getElem?
  intro j
  rw [List.getElem?_set]
  split
  · rename_i h
    subst h
    rw [List.getD_eq_getElem?_getD]
    split
    · rename_i h; simp [h]
    · rename_i h; rw [List.getElem?_eq_none (by omega)]
  · rfl
theorem restL_none : ∀ (Q : List (Nat × List UInt8)) (L : List (List UInt8)), restL L Q [] = L
  | [], L => rfl
  | w :: Q, L => by rw [restL, mixed_none, set_getD, restL_none Q]
theorem restL_whole {n : Nat} : ∀ (Q : List (Nat × List UInt8)) (L : List (List UInt8)), L.length = n → (∀ p ∈ L, p.length = 128) → (∀ w ∈ Q, w.1 < n ∧ w.2.length = 128) → restL L Q (List.replicate Q.length 128) = applyQ L Q
  | [], L, _, _, _ => rfl
  | w :: Q, L, h1, h2, h3 => by
    have hw := h3 w (List.mem_cons_self ..)
    have hg : (L.getD w.1 []).length = 128 := h2 _ (by rw [List.getD_eq_getElem?_getD, List.getElem?_eq_getElem (by omega)]; exact List.getElem_mem _)
    rw [List.length_cons, List.replicate_succ, restL, mixed_whole hg hw.2, restL_whole Q (L.set w.1 w.2) (by simpa using h1) (fun p hp => by
      rcases List.mem_or_eq_of_mem_set hp with h | h
      · exact h2 p h
      · rw [h]; exact hw.2) fun x hx => h3 x (List.mem_cons_of_mem _ hx)]
    rfl
/-- The last byte of a page. -/
def lastB (L : List (List UInt8)) (i : Nat) : UInt8 := (L.getD i []).getD 127 0
theorem lastB_set {L : List (List UInt8)} {i j : Nat} {x : List UInt8} (hi : i < L.length) : lastB (L.set i x) j = if i = j then x.getD 127 0 else lastB L j := by
  have e : (L.set i x).getD j [] = if i = j then x else L.getD j [] := by
    rw [List.getD_eq_getElem?_getD, List.getElem?_set]
    split
    · rename_i h
      subst h
      simp [hi]
    · rw [← List.getD_eq_getElem?_getD]
  unfold lastB
  rw [e]
  split <;> rfl
theorem wrap_byte (x : Int) : ∃ y : UInt8, IntKind.wrap .u8 x = (y.toNat : Int) := ⟨UInt8.ofNat (x % 256).toNat, by
  rw [wrap_u8, UInt8.toNat_ofNat']
  omega⟩
/-- A device that lasts nothing, but to which writes wait. -/
def WD (Q : List (Nat × List UInt8)) : Dev := ⟨List.replicate 12 (List.replicate 128 0), Q, -1, false⟩
theorem WD_wf {Q : List (Nat × List UInt8)} (h : ∀ w ∈ Q, w.1 < 12 ∧ w.2.length = 128) : (WD Q).Wf 12 := ⟨by simp [WD], by omega, fun p hp => by simp [WD] at hp; simp [hp], h, by show (-1 : Int) ≤ -1; omega, by show (-1 : Int) ≤ _; omega⟩
theorem WD_write {Q : List (Nat × List UInt8)} (h : ∀ w ∈ Q, w.1 < 12 ∧ w.2.length = 128) {i : Nat} {xs : List UInt8} (hi : i < 12) (hx : xs.length = 128) : writeD (WD Q) i xs = (0, WD (Q ++ [(i, xs)])) := by
  have ho : opD (WD Q) = WD Q := opD_neg (by show (-1 : Int) < 0; omega)
  rw [writeD_zero (WD_wf h) rfl hi hx (by rw [ho]; rfl), ho]
  rfl
theorem deviceWhole_ok {h : Heap} {p : Option Addr} {l c : Nat} {bs : List UInt8} (hb : Bs h p l bs) (kk : Int) :
    CallsH Try.prog n_law07_DeviceWhole #[.slice p l c, .int .u8 kk] h fun v h' => v = .bool true ∧ Ext h h' := by
  refine C_law07_DeviceWhole p l c kk ?_
  unfold F_law07_DeviceWhole
  refine (awake7_ok h).mono fun v h1 ⟨hv, e1⟩ => ⟨e1, true, hv, br_no rfl ?_⟩
  rw [br_decide]
  refine ⟨fun _ => (awake7_ok h1).mono fun v h7 ⟨hv, e⟩ => ⟨e, true, hv, rfl, e1.trans e⟩, fun hl60 => ?_⟩
  have s := (St.start h).keep e1
  refine (new_ok h1 12 (by omega)).mono fun v h10 ⟨bx, hv, nw⟩ => ⟨nw.ext, some (Addr.mk bx 0 none), 0, hv, ?_⟩
  have s : St h h10 [Dv bx (WD [])] := s.join nw
  refine (new_ok h10 12 (by omega)).mono fun v h14 ⟨by_, hv, nw⟩ => ⟨nw.ext, some (Addr.mk by_ 0 none), 0, hv, ?_⟩
  have s : St h h14 [Dv by_ (WD []), Dv bx (WD [])] := s.join nw
  refine s.newBlk fun bl h18 _ s _ => ?_
  have hbl := hb.1
  refine ⟨fun st h' => ∃ (k : Nat) (L : List UInt8) (Q : List (Nat × List UInt8)), st.2 = k ∧ k ≤ l ∧ Q.length = k ∧ L.length = 12 ∧ (∀ w ∈ Q, w.1 < 12 ∧ w.2.length = 128) ∧ (∀ i, i < 12 → L.getD i 0 = lastB (WD Q).seen i) ∧
    St h h' [own 1 st.1.1 st.1.2.1 st.1.2.2 (List.replicate k (Value.int .i64 128)), pts bl 0 false (bcs L), Dv by_ (WD Q), Dv bx (WD Q)], fun st _ => ((l : Int) - st.2).toNat,
    ⟨0, List.replicate 12 0, [], rfl, Nat.zero_le _, rfl, by simp, by simp, ?_, ?_⟩, ?_⟩
  · intro i hi
    match i, hi with
    | 0, _ | 1, _ | 2, _ | 3, _ | 4, _ | 5, _ | 6, _ | 7, _ | 8, _ | 9, _ | 10, _ | 11, _ => rfl
  · rw [bcs_replicate]
    exact s.nil 1
  clear s
  rintro ⟨⟨sp, sl, sc⟩, i⟩ h22 ⟨k, L, Q, rfl, hk, hQ, hL, hq, hlast, s⟩
  dsimp only at *
  have hsl : k = sl := by
    have := s.len.1
    simpa using this
  subst hsl
  rw [br_decide]
  refine ⟨fun hlt => ⟨by omega, hlt, ?_⟩, fun hge => ?_⟩
  · obtain ⟨a, rfl, hc⟩ := (hb.ext s.ext).cell (i := k) (by omega)
    simp only [deref_some, Nat.mul_one, Int.toNat_natCast]
    have hbt := u8_lt bs[k]
    generalize bs[k] = x at *
    refine ⟨(x.toNat : Int), hc, by omega, ?_⟩
    have hat : IntKind.wrap .i64 (Int.tmod (x.toNat : Int) 12) = ((x.toNat % 12 : Nat) : Int) := by
      rw [Int.tmod_eq_emod_of_nonneg (by omega), wrap_i64 (by omega) (by omega)]; omega
    rw [hat]
    have hat12 : x.toNat % 12 < 12 := Nat.mod_lt _ (by omega)
    generalize x.toNat % 12 = w at *
    refine make128 s fun b25 h26 s => ⟨by omega, by omega, ?_⟩
    simp only [Nat.zero_add, add_mk, Int.toNat_natCast, Nat.mul_one]
    obtain ⟨y, hy⟩ := wrap_byte (kk + IntKind.wrap .u8 (k : Int))
    rw [hy]
    refine s.ownStore1 (o := 0) (x := 127) (by omega) rfl fun h27 s => ⟨by omega, by omega, (y.toNat : Int), ?_, by omega, by omega, ?_⟩
    · have hby : Bs h27 (some (Addr.mk b25 0 none)) 128 ((List.replicate 128 0).set 127 y) := bs_own (c := 128) (by
        have := s.at
        rw [bcs_set] at this
        exact this)
      obtain ⟨a', e, hc'⟩ := hby.cell (i := 127) (by simp)
      cases e
      rw [add_mk] at hc'
      rw [List.getElem_set_self] at hc'
      exact hc'
    rw [bcs_set] at s
    have hp : ((List.replicate 128 (0 : UInt8)).set 127 y).length = 128 := by simp
    have hp7 : ((List.replicate 128 (0 : UInt8)).set 127 y).getD 127 0 = y := by simp [List.getD_eq_getElem?_getD]
    generalize (List.replicate 128 (0 : UInt8)).set 127 y = pg at *
    refine s.up2.store0 (by rw [bcs_length]; omega) rfl fun h29 s => ?_
    rw [bcs_set] at s
    refine s.newBlk fun b30 h31 _ s _ => ?_
    refine St.append (xs := [Value.int .i64 128]) s.up3 ⟨rfl, by simp only [src, Nat.one_mul]; exact s.row0 rfl⟩ (by intro v hv; simp only [List.mem_singleton] at hv; subst hv; rfl) rfl (by omega) (by unfold maxLen; omega) fun p' c' h35 s _ => ?_
    have s := s.up3.ro.up5
    have hw1 : writeD (WD Q) w pg = (0, WD (Q ++ [(w, pg)])) := WD_write hq hat12 hp
    have hq' : ∀ x ∈ Q ++ [(w, pg)], x.1 < 12 ∧ x.2.length = 128 := fun x hx => by
      rcases List.mem_append.1 hx with h | h
      · exact hq x h
      · simp only [List.mem_singleton] at h
        subst h
        exact ⟨hat12, hp⟩
    refine (write_ok s (WD_wf hq) w (by show Q.length ≤ _; omega)).mono fun v h37 ⟨hv, s⟩ => ?_
    rw [hw1] at hv s
    refine ⟨0, hv, br_no rfl ?_⟩
    refine (write_ok s.up5.up2.up1 (WD_wf hq) w (by show Q.length ≤ _; omega)).mono fun v h40 ⟨hv, s⟩ => ?_
    rw [hw1] at hv s
    refine ⟨0, hv, br_no rfl ?_⟩
    rw [wrap_i64 (by omega) (by omega)]
    refine ⟨⟨k + 1, L.set w y, Q ++ [(w, pg)], by omega, by omega, by simp [hQ], by simp [hL], hq', fun i hi => ?_, ?_⟩, by omega⟩
    · have e : (WD (Q ++ [(w, pg)])).seen = (WD Q).seen.set w pg := applyQ_snoc _ _ _
      rw [e, lastB_set (by rw [(WD_wf hq).seenLen]; exact hat12), hp7, ← hlast i hi, List.getD_eq_getElem?_getD, List.getElem?_set]
      split
      · rw [if_pos (by omega)]; rfl
      · rw [List.getD_eq_getElem?_getD]
    · have e : List.replicate (k + 1) (Value.int .i64 128) = List.replicate k (Value.int .i64 128) ++ [Value.int .i64 128] := by rw [List.replicate_succ']
      rw [e]
      exact s.up1.drop.up3.drop.up3.up3
  · have hkl : k = l := by omega
    have eQ : (List.replicate k (Value.int .i64 128)) = (List.replicate Q.length (128 : Int)).map (Value.int .i64) := by rw [List.map_replicate, hQ]
    rw [eQ] at s
    have s := s.ro.up3
    refine (restart_ok s (WD_wf hq) (by show Q.length ≤ _; omega)).mono fun v h43 ⟨hv, s⟩ => ⟨hv, ?_⟩
    have s := (s.up3.rdNil 1).up1
    refine (restart_ok (list := []) s (WD_wf hq) (by show Q.length ≤ _; omega)).mono fun v h45 ⟨hv, s⟩ => ⟨hv, ?_⟩
    have hwf := restL_whole Q (WD Q).lasts (n := 12) (WD_wf hq).len (WD_wf hq).pages hq
    have wx := restartD_wf (WD_wf hq) (List.replicate Q.length 128)
    have wy := restartD_wf (WD_wf hq) []
    have hx : (restartD (WD Q) (List.replicate Q.length 128)).seen = (WD Q).seen := hwf
    have hy : (restartD (WD Q) []).seen = List.replicate 12 (List.replicate 128 0) := restL_none _ _
    have hdx : (restartD (WD Q) (List.replicate Q.length 128)).down = false := rfl
    have hdy : (restartD (WD Q) []).down = false := rfl
    generalize restartD (WD Q) (List.replicate Q.length 128) = X at *
    generalize restartD (WD Q) [] = Y at *
    refine ⟨fun i h' => ∃ k : Nat, i = k ∧ k ≤ 12 ∧ St h h' [pts bl 0 false (bcs L), Dv by_ Y, Dv bx X], fun i _ => (12 - i).toNat, ⟨0, rfl, by omega, ?_⟩, ?_⟩
    · exact s.up1.drop.up2.drop.up2
    clear s
    rintro i h49 ⟨k, rfl, hk12, s⟩
    rw [br_decide]
    refine ⟨fun hlt => ?_, fun hge => ⟨rfl, s.ext⟩⟩
    have hk : k < 12 := by omega
    have rx : readD X k = ((WD Q).seen.getD k [], 0) := by rw [readD, if_pos (reach_zero wx hdx hk), hx, Int.toNat_natCast]
    have ry : readD Y k = (List.replicate 128 0, 0) := by
      rw [readD, if_pos (reach_zero wy hdy hk), hy, Int.toNat_natCast, List.getD_eq_getElem?_getD, List.getElem?_replicate, if_pos hk]; rfl
    have lx : ((WD Q).seen.getD k []).length = 128 := (WD_wf hq).seenPages _ (by rw [List.getD_eq_getElem?_getD, List.getElem?_eq_getElem (by rw [(WD_wf hq).seenLen]; exact hk)]; exact List.getElem_mem _)
    refine (read_ok s.up2.at wx k).mono fun v h51 ⟨p52, l53, c54, hv, nw⟩ => ?_
    rw [rx] at hv nw
    refine ⟨nw.ext, p52, l53, c54, 0, hv, ?_⟩
    have s := s.join nw
    refine (read_ok s.up2.at wy k).mono fun v h57 ⟨p58, l59, c60, hv, nw⟩ => ?_
    rw [ry] at hv nw
    refine ⟨nw.ext, p58, l59, c60, 0, hv, ?_⟩
    have s := s.join nw
    have bx_ := bs_own s.up1.at
    have by2 := bs_own s.at
    have lx2 := bx_.1
    dsimp only at bx_ lx2
    rw [br_bne]
    refine ⟨fun hne => by omega, fun heq => ⟨by omega, by omega, ?_⟩⟩
    obtain ⟨a, rfl, hc⟩ := bx_.cell (i := 127) (by omega)
    simp only [deref_some, Nat.zero_add, add_mk, Nat.mul_one, Int.toNat_natCast]
    refine ⟨_, hc, by omega, by omega, (L[k].toNat : Int), s.up2.cell0 (bcs_get (by omega)), ?_⟩
    rw [br_bne]
    refine ⟨fun hne => ?_, fun _ => ?_⟩
    · exfalso
      have := hlast k hk
      unfold lastB at this
      rw [List.getD_eq_getElem?_getD, List.getElem?_eq_getElem (by omega), List.getD_eq_getElem?_getD (l := (WD Q).seen.getD k []), List.getElem?_eq_getElem (by omega)] at this
      simp only [Option.getD_some] at this
      exact hne (by rw [this])
    refine make128 s fun b65 h66 s => ?_
    refine (same_ok (bs_own s.up1.at) (bs_own s.at) (by have := (bs_own s.up1.at).1; simp at this; omega)).mono fun v h68 ⟨hv, hh⟩ => ?_
    subst hh
    refine ⟨Ext.refl _, true, by rw [hv, decide_eq_true rfl], br_no rfl ?_⟩
    rw [wrap_i64 (by omega) (by omega)]
    exact ⟨⟨k + 1, by omega, by omega, s.drop.drop.drop⟩, by show (12 - ((k : Int) + 1)).toNat < (12 - (k : Int)).toNat; omega⟩
end Go.Proofs.Ytcjcbokgcgmegaa
