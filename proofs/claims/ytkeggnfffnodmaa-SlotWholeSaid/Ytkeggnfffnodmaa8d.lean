/- Layer 8: SlotAny. -/
import Derived.Test.Ytkeggnfffnodmaa8b
import Derived.Test.Ytkeggnfffnodmaa1s
set_option linter.unusedVariables false
set_option maxRecDepth 100000
namespace Go.Proofs.Ytkeggnfffnodmaa
open Go Go.Vc Go.Proofs
/-- What the reference reads of a page. -/
def rightB (b : List UInt8) (i : Nat) : Nat × List UInt8 := if headB b ≠ tailB b ∨ 110 < countB b ∨ headB b % 2 ≠ i then (0, []) else (headB b, textB b)
theorem right_ok {h : Heap} {p : Option Addr} {c : Nat} {xs : List UInt8} (hx : Bs h p 128 xs) (hc : 128 ≤ c) (i : Nat) (hi : i < 2) :
    CallsH Try.prog n_ref08_Right #[.slice p 128 c, .int .i64 i] h fun v h' => (∃ p' l' c', v = .tuple #[.int .u64 (rightB xs i).1, .slice p' l' c'] ∧ Bs h' p' l' (rightB xs i).2) ∧ h' = h := by
  refine C_ref08_Right p 128 c i ?_
  unfold F_ref08_Right
  have hxl := hx.1
  refine sliceP_to (n := 8) (by omega) ?_
  refine sliceP_mid (n := 120) (m := 128) (l := 128) (by omega) (by omega) hc ?_
  refine (value_ok (Bs.take hx (n := 8) (by omega)) (by omega)).mono fun v h7 ⟨hv, hh⟩ => ?_
  subst hh
  refine ⟨Ext.refl _, _, hv, ?_⟩
  refine (value_ok (Bs.mid hx (c := c) (n := 120) (m := 128) (by omega) (by omega) hc) (by omega)).mono fun v h10 ⟨hv, hh⟩ => ?_
  subst hh
  refine ⟨Ext.refl _, _, hv, ?_⟩
  refine sliceP_mid (n := 8) (m := 10) (l := 128) (by omega) (by omega) hc ?_
  refine (value_ok (Bs.mid hx (c := c) (n := 8) (m := 10) (by omega) (by omega) hc) (by omega)).mono fun v h16 ⟨hv, hh⟩ => ?_
  subst hh
  refine ⟨Ext.refl _, _, hv, ?_⟩
  have e1 : valB (List.take 8 xs) = headB xs := rfl
  have e2 : valB (List.take (128 - 120) (List.drop 120 xs)) = tailB xs := by rw [List.take_of_length_le (by rw [List.length_drop]; omega)]; rfl
  have e3 : valB (List.take (10 - 8) (List.drop 8 xs)) = countB xs := rfl
  rw [e1, e2, e3]
  have bad : (headB xs ≠ tailB xs ∨ 110 < countB xs ∨ headB xs % 2 ≠ i) → (∃ p' l' c', Value.tuple #[.int .u64 0, .slice none 0 0] = .tuple #[.int .u64 (rightB xs i).1, .slice p' l' c'] ∧ Bs h16 p' l' (rightB xs i).2) ∧ h16 = h16 := fun hb => by
    rw [rightB, if_pos hb]
    exact ⟨⟨none, 0, 0, rfl, rfl, Rd.nil _ _⟩, rfl⟩
  rw [br_bne]
  refine ⟨fun hne => bad (.inl (by omega)), fun he => ?_⟩
  rw [br_decide]
  refine ⟨fun hgt => bad (.inr (.inl (by omega))), fun hle => ⟨by omega, ?_⟩⟩
  have htm : Int.tmod (headB xs : Int) 2 = ((headB xs % 2 : Nat) : Int) := by rw [Int.tmod_eq_emod_of_nonneg (by omega)]; omega
  have hwi : IntKind.wrap .u64 (i : Int) = (i : Int) := by rw [wrap_u64]; omega
  rw [htm, hwi, br_bne]
  refine ⟨fun hne => bad (.inr (.inr (by omega))), fun hp => ?_⟩
  have hw : IntKind.wrap .u64 (10 + (countB xs : Int)) = ((10 + countB xs : Nat) : Int) := by rw [wrap_u64]; omega
  rw [hw]
  refine sliceP_mid (n := 10) (m := 10 + countB xs) (l := 128) (by omega) (by omega) hc ?_
  have hr : rightB xs i = (headB xs, textB xs) := by rw [rightB, if_neg (by omega)]
  rw [hr]
  have hm := Bs.mid hx (c := c) (n := 10) (m := 10 + countB xs) (by omega) (by omega) hc
  have en : 10 + countB xs - 10 = countB xs := by omega
  rw [en] at hm
  exact ⟨⟨_, _, _, rfl, by rw [en]; exact hm⟩, rfl⟩
theorem pickL_right (i : Nat) (acc : Nat × List UInt8) (b : List UInt8) : pickL i acc b = if acc.1 < (rightB b i).1 then rightB b i else acc := by
  unfold pickL decB rightB
  by_cases h1 : countB b ≤ 110 ∧ tailB b = headB b ∧ headB b ≠ 0
  · rw [if_pos h1]
    by_cases h2 : headB b % 2 = i
    · rw [if_neg (c := headB b ≠ tailB b ∨ 110 < countB b ∨ headB b % 2 ≠ i) (by omega)]
      simp only [h2, true_and]
    · rw [if_pos (c := headB b ≠ tailB b ∨ 110 < countB b ∨ headB b % 2 ≠ i) (by omega)]
      simp only
      rw [if_neg (fun hh => h2 hh.1), if_neg (by omega)]
  · rw [if_neg h1]
    simp only
    split
    · simp
    · rename_i h3
      have : headB b = 0 := by omega
      simp only [this]
      rw [if_neg (by omega)]
theorem right_mod {b : List UInt8} {i : Nat} (h : 0 < (rightB b i).1) : (rightB b i).1 % 2 = i := by
  unfold rightB at h ⊢
  split
  · rename_i hc; rw [if_pos hc] at h; simp at h
  · simp only; omega
theorem right_len (b : List UInt8) (i : Nat) : (rightB b i).2.length ≤ 110 := by
  unfold rightB
  split
  · simp
  · simp only [textB, List.length_take]; omega
theorem save_any {D : Dev} {n a c : Nat} {v xs : List UInt8} (u : Up D n) (hf : D.fuse = -1) (ha : a + 1 < n) (hl : loadD D a = ((c, v), 0)) (hx : xs.length ≤ 110) :
    (saveD D a xs).1 = if c + 1 = 18446744073709551616 then (0, 5) else (c + 1, 0) := by
  rw [saveD, hl, if_neg (by omega), if_neg (by simp)]
  dsimp only
  split
  · rfl
  · have ho : opD D = D := opD_neg (by omega)
    have hi : a + (c + 1) % 2 < n := by omega
    have ea : ((a : Int) + (((c + 1) % 2 : Nat) : Int)) = ((a + (c + 1) % 2 : Nat) : Int) := by omega
    have hw : writeD D ((a + (c + 1) % 2 : Nat) : Int) (pageB (c + 1) xs) = (0, { D with queue := D.queue ++ [(a + (c + 1) % 2, pageB (c + 1) xs)] }) := by
      rw [writeD_zero u.wf u.up hi (pageB_length hx) (by rw [ho]; exact u.up), ho]
    have ho2 : opD { D with queue := D.queue ++ [(a + (c + 1) % 2, pageB (c + 1) xs)] } = { D with queue := D.queue ++ [(a + (c + 1) % 2, pageB (c + 1) xs)] } := opD_neg (by show D.fuse < 0; omega)
    rw [ea, hw]
    dsimp only
    rw [if_neg (by simp), flushD_zero (D := { D with queue := D.queue ++ [(a + (c + 1) % 2, pageB (c + 1) xs)] }) u.up (by rw [ho2]; exact u.up)]
    rfl
theorem slotAny_ok {h : Heap} {p q r : Option Addr} {l c m d k e : Nat} {xs ys vs : List UInt8} (hx : Bs h p l xs) (hlc : l ≤ c) (hy : Bs h q m ys) (hmd : m ≤ d) (hv : Bs h r k vs) :
    CallsH Try.prog n_law08_SlotAny #[.slice p l c, .slice q m d, .slice r k e] h fun v h' => v = .bool true ∧ Ext h h' := by
  refine C_law08_SlotAny p l c q m d r k e ?_
  unfold F_law08_SlotAny
  have hxl := hx.1
  have hyl := hy.1
  have hvl := hv.1
  refine (awake8_ok h).mono fun v h1 ⟨hv', e1⟩ => ⟨e1, true, hv', br_no rfl ?_⟩
  have s := (St.start h).keep e1
  rw [br_bne]
  refine ⟨fun _ => awake8_end s, fun hl => ?_⟩
  rw [br_bne]
  refine ⟨fun _ => awake8_end s, fun hm => ?_⟩
  rw [br_decide]
  refine ⟨fun _ => awake8_end s, fun hk => ?_⟩
  obtain rfl : l = 128 := by omega
  obtain rfl : m = 128 := by omega
  refine (new_ok h1 2 (by omega)).mono fun v h16 ⟨dv, hv', nw⟩ => ⟨nw.ext, some (Addr.mk dv 0 none), 0, hv', ?_⟩
  have s := s.join nw
  have u0 := newD_up (n := 2) (by omega)
  have w1 : writeD (newD 2) ((0 : Nat) : Int) xs = (0, { newD 2 with queue := [(0, xs)] }) := writeD_zero (i := 0) u0.wf rfl (by omega) (by omega) rfl
  have wf1 := writeD_wf u0.wf ((0 : Nat) : Int) xs
  rw [w1] at wf1
  refine (write_ok (s.old hx.2).up1 u0.wf ((0 : Nat) : Int) (by simp [newD])).mono fun v h20 ⟨hv', s⟩ => ⟨_, hv', ?_⟩
  rw [w1] at s
  have w2 : writeD { newD 2 with queue := [(0, xs)] } ((1 : Nat) : Int) ys = (0, { newD 2 with queue := [(0, xs), (1, ys)] }) := writeD_zero (i := 1) wf1 rfl (by omega) (by omega) rfl
  have wf2 := writeD_wf wf1 ((1 : Nat) : Int) ys
  rw [w2] at wf2
  refine (write_ok ((s.up1.drop).old hy.2).up1 wf1 ((1 : Nat) : Int) (by simp)).mono fun v h23 ⟨hv', s⟩ => ⟨_, hv', ?_⟩
  rw [w2] at s
  have s := s.up1.drop
  dsimp only at wf2 s
  have u : Up { newD 2 with queue := [(0, xs), (1, ys)] } 2 := ⟨wf2, rfl⟩
  have g0 : pg { newD 2 with queue := [(0, xs), (1, ys)] } 0 = xs := rfl
  have g1 : pg { newD 2 with queue := [(0, xs), (1, ys)] } 1 = ys := rfl
  have hfu : ({ newD 2 with queue := [(0, xs), (1, ys)] } : Dev).fuse = -1 := rfl
  have hql : ({ newD 2 with queue := [(0, xs), (1, ys)] } : Dev).queue.length ≤ 100000 := by simp
  generalize ({ newD 2 with queue := [(0, xs), (1, ys)] } : Dev) = D at *
  refine (right_ok (hx.ext s.ext) (by omega) 0 (by omega)).mono fun v h26 ⟨⟨p28, l29, c30, hv', hb1⟩, hh⟩ => ?_
  subst hh
  refine ⟨Ext.refl _, _, p28, l29, c30, hv', ?_⟩
  refine (right_ok (hy.ext s.ext) (by omega) 1 (by omega)).mono fun v h32 ⟨⟨p34, l35, c36, hv', hb2⟩, hh⟩ => ?_
  subst hh
  refine ⟨Ext.refl _, _, p34, l35, c36, hv', ?_⟩
  have hld : loadD D 0 = (if (rightB xs 0).1 ≤ (rightB ys 1).1 then (if 0 < (rightB ys 1).1 then rightB ys 1 else (0, [])) else rightB xs 0, 0) := by
    have r0 : readD D 0 = (pg D 0, 0) := u.read (i := 0) (by omega)
    have r1 : readD D (0 + 1) = (pg D 1, 0) := u.read (i := 1) (by omega)
    rw [loadD, r0, r1, if_neg (by simp), if_neg (by simp), g0, g1]
    dsimp only
    rw [pickL_right, pickL_right]
    dsimp only
    by_cases ha : 0 < (rightB xs 0).1
    · rw [if_pos ha]
      by_cases hb : (rightB xs 0).1 < (rightB ys 1).1
      · rw [if_pos hb, if_pos (by omega), if_pos (by omega)]
      · rw [if_neg hb]
        by_cases hc : (rightB xs 0).1 ≤ (rightB ys 1).1
        · exfalso
          have m1 := right_mod ha
          have m2 := right_mod (b := ys) (i := 1) (by omega)
          omega
        · rw [if_neg hc]
    · rw [if_neg ha]
      by_cases hb : 0 < (rightB ys 1).1
      · rw [if_pos hb, if_pos (by omega)]
      · rw [if_neg hb, if_pos (by omega)]
  have hll := loadD_lt D 0
  refine (load_ok (at_ := 0) s.at u.wf (by omega) (by omega)).mono fun v h38 ⟨p40, l41, c42, hv', nw⟩ => ?_
  have e0 : (loadD D 0).2 = 0 := by rw [hld]
  rw [e0] at hv'
  refine ⟨nw.ext, _, p40, l41, c42, 0, hv', ?_⟩
  have s2 := s.keep nw.ext
  have hb1 := hb1.ext nw.ext
  have hb2 := hb2.ext nw.ext
  have hbl := bs_own nw.st.at
  have save : ∀ {h' : Heap}, Ext h38 h' → CallsH Try.prog n_slot_Save #[ptr dv, .int .i64 0, .slice r k e] h' fun v47 h48 => ∃ (n49 n50 : Int), v47 = .tuple #[.int .u64 n49, .int .i64 n50] ∧
      br (((loadD D 0).1.1 : Int) == 18446744073709551615) (br (n50 == 5) (Value.bool (n49 == 0) = .bool true ∧ Ext h h48) (Value.bool false = .bool true ∧ Ext h h48))
        (br (n50 == 0) (Value.bool (n49 == IntKind.wrap .u64 (((loadD D 0).1.1 : Int) + 1)) = .bool true ∧ Ext h h48) (Value.bool false = .bool true ∧ Ext h h48)) := by
    intro h' e'
    have s3 := s2.keep e'
    refine (save_ok (at_ := 0) (s3.old hv.2).up1 u.wf hql (by omega) (by omega)).mono fun v h48 ⟨hv', s4⟩ => ⟨_, _, hv', ?_⟩
    have hsv : (saveD D 0 vs).1 = if (loadD D 0).1.1 + 1 = 18446744073709551616 then (0, 5) else ((loadD D 0).1.1 + 1, 0) :=
      save_any (a := 0) (v := (loadD D 0).1.2) u hfu (by omega) (Prod.ext rfl e0) (by omega)
    rw [hsv, br_beq]
    refine ⟨fun he => ?_, fun he => ?_⟩
    · rw [if_pos (by omega)]
      exact br_yes rfl ⟨rfl, s4.ext⟩
    · rw [if_neg (by omega)]
      have hw : IntKind.wrap .u64 (((loadD D 0).1.1 : Int) + 1) = (((loadD D 0).1.1 + 1 : Nat) : Int) := by rw [wrap_u64]; omega
      refine br_yes rfl ⟨?_, s4.ext⟩
      rw [hw]
      simp
  rw [br_decide]
  refine ⟨fun hle => ?_, fun hle => ?_⟩
  · refine br_no rfl ?_
    by_cases hpos : 0 < (rightB ys 1).1
    · have hl1 : (loadD D 0).1 = rightB ys 1 := by rw [hld]; dsimp only; rw [if_pos (by omega), if_pos hpos]
      refine br_no (by rw [hl1]; simp) ?_
      rw [br_decide]
      refine ⟨fun _ => ?_, fun hx => by omega⟩
      rw [hl1] at hbl
      refine (same_ok hbl hb2 (by have := hbl.1; have := right_len ys 1; have := right_len xs 0; omega)).mono fun v h45 ⟨hv', hh⟩ => ?_
      subst hh
      exact ⟨Ext.refl _, true, by rw [hv', decide_eq_true rfl], br_no rfl (save (Ext.refl _))⟩
    · have hl1 : (loadD D 0).1 = (0, []) := by rw [hld]; dsimp only; rw [if_pos (by omega), if_neg hpos]
      refine br_no (by rw [hl1]; simp; omega) ?_
      rw [br_decide]
      exact ⟨fun hx => by omega, fun _ => save (Ext.refl _)⟩
  · have hl1 : (loadD D 0).1 = rightB xs 0 := by rw [hld]; dsimp only; rw [if_neg (by omega)]
    refine br_no rfl (br_no (by rw [hl1]; simp) ?_)
    rw [br_decide]
    refine ⟨fun _ => ?_, fun hx => by omega⟩
    rw [hl1] at hbl
    refine (same_ok hbl hb1 (by have := hbl.1; have := right_len ys 1; have := right_len xs 0; omega)).mono fun v h45 ⟨hv', hh⟩ => ?_
    subst hh
    exact ⟨Ext.refl _, true, by rw [hv', decide_eq_true rfl], br_no rfl (save (Ext.refl _))⟩
end Go.Proofs.Ytkeggnfffnodmaa
