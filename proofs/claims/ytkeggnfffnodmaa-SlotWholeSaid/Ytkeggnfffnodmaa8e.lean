/- Layer 8: what the reference of the slot answers. -/
import Derived.Test.Ytkeggnfffnodmaa8d
set_option linter.unusedVariables false
set_option maxRecDepth 100000
namespace Go.Proofs.Ytkeggnfffnodmaa
open Go Go.Vc Go.Proofs
section
variable {h0 h : Heap} {F : List HP} {b n : Nat} {D : Dev}
theorem page_ok {xs : List UInt8} {p : Option Addr} {l c : Nat} (hx : Bs h p l xs) (hl : xs.length ≤ 110) (s : Nat) (hs : s < 18446744073709551616) :
    CallsH Try.prog n_ref08_Page #[.int .u64 s, .slice p l c] h fun v h' => ∃ p' l' c', v = .slice p' l' c' ∧ New h h' [own 1 p' l' c' (bcs (pageB s xs))] := by
  refine C_ref08_Page s p l c ?_
  unfold F_ref08_Page
  have hxl := hx.1
  refine (rnumber_ok s 8 hs (by omega)).mono fun v h1 ⟨p2, l3, c4, hv, nw⟩ => ⟨nw.ext, p2, l3, c4, hv, ?_⟩
  have st := nw.st
  have hw : IntKind.wrap .u64 (l : Int) = (l : Int) := by rw [wrap_u64]; omega
  rw [hw]
  refine (rnumber_ok l 2 (by omega) (by omega)).mono fun v h6 ⟨p7, l8, c9, hv, nw2⟩ => ⟨nw2.ext, p7, l8, c9, hv, ?_⟩
  have st := st.join nw2
  simp only [List.cons_append, List.nil_append] at st
  have hl3 := st.up1.len.1
  have hl8 := st.len.1
  rw [bcs_length, numB_length] at hl3 hl8
  refine St.append st.up1 (rd_own st.at) (one_bcs _) rfl (by omega) (by unfold maxLen; omega) fun p10 c12 h13 st _ => ?_
  refine St.append st (hx.2.ext st.ext) (bvs_one xs) rfl (by omega) (by unfold maxLen; omega) fun p14 c16 h17 st _ => ?_
  have e0 : bcs (numB s 8) ++ bcs (numB l 2) ++ xs.map bv = bcs (numB s 8 ++ (numB l 2 ++ xs)) := by rw [bcs_append, bcs_append, List.append_assoc]; rfl
  rw [e0] at st
  refine ⟨fun sl h' => ∃ k : Nat, k ≤ 110 - l ∧ St h h' [own 1 sl.1 sl.2.1 sl.2.2 (bcs (numB s 8 ++ (numB l 2 ++ xs) ++ List.replicate k 0))], fun sl _ => 120 - sl.2.1, ⟨0, by omega, by simpa using st.up1.drop⟩, ?_⟩
  clear st
  rintro ⟨sp, sl, sc⟩ h21 ⟨k, hk, st⟩
  dsimp only at *
  have hsl := st.len.1
  have hsl2 : sl = 10 + l + k := by
    rw [bcs_length] at hsl
    simp [numB_length] at hsl
    omega
  rw [br_decide]
  refine ⟨fun hlt => ?_, fun hge => ?_⟩
  · refine st.newBlk fun b22 h23 _ st _ => ?_
    refine St.append (xs := [bv 0]) st.up1 ⟨rfl, by simp only [src, Nat.one_mul]; exact st.row0 rfl⟩ (by simp [bv_one]) rfl (by omega) (by unfold maxLen; omega) fun p24 c26 h27 st _ => ⟨⟨k + 1, by omega, ?_⟩, by omega⟩
    have e : bcs (numB s 8 ++ (numB l 2 ++ xs) ++ List.replicate (k + 1) 0) = bcs (numB s 8 ++ (numB l 2 ++ xs) ++ List.replicate k 0) ++ [bv 0] := by
      rw [List.replicate_succ' (n := k), ← List.append_assoc, bcs_append]; rfl
    rw [e]
    exact st.up1.drop
  · have hk2 : k = 110 - l := by omega
    subst hk2
    refine (rnumber_ok s 8 hs (by omega)).mono fun v h29 ⟨p30, l31, c32, hv, nw3⟩ => ⟨nw3.ext, p30, l31, c32, hv, ?_⟩
    have st := st.join nw3
    simp only [List.cons_append, List.nil_append] at st
    have hl31 := st.len.1
    rw [bcs_length, numB_length] at hl31
    refine St.append st.up1 (rd_own st.at) (one_bcs _) rfl (by omega) (by unfold maxLen; omega) fun p33 c35 h36 st _ => ⟨_, _, _, rfl, ?_⟩
    rw [← bcs_append] at st
    have e : numB s 8 ++ (numB l 2 ++ xs) ++ List.replicate (110 - l) 0 ++ numB s 8 = pageB s xs := by rw [pageB, hxl]
    rw [e] at st
    exact st.up1.drop.new ⟨owns_own, trivial⟩
theorem loadD_right (D : Dev) (at_ : Int) (e0 : (readD D at_).2 = 0) (e1 : (readD D (at_ + 1)).2 = 0) :
    loadD D at_ = (if (rightB (readD D at_).1 0).1 = 0 ∧ (rightB (readD D (at_ + 1)).1 1).1 = 0 then (0, []) else if (rightB (readD D (at_ + 1)).1 1).1 < (rightB (readD D at_).1 0).1 then rightB (readD D at_).1 0 else rightB (readD D (at_ + 1)).1 1, 0) := by
  rw [loadD, if_neg (by simpa using e0), if_neg (by simpa using e1), pickL_right, pickL_right]
  dsimp only
  by_cases ha : 0 < (rightB (readD D at_).1 0).1
  · rw [if_pos ha]
    by_cases hb : (rightB (readD D at_).1 0).1 < (rightB (readD D (at_ + 1)).1 1).1
    · rw [if_pos hb, if_neg (by omega), if_neg (by omega)]
    · rw [if_neg hb, if_neg (by omega)]
      by_cases hc : (rightB (readD D at_).1 0).1 = (rightB (readD D (at_ + 1)).1 1).1
      · exfalso
        have m1 := right_mod ha
        have m2 := right_mod (b := (readD D (at_ + 1)).1) (i := 1) (by omega)
        omega
      · rw [if_pos (by omega)]
  · rw [if_neg ha]
    by_cases hb : 0 < (rightB (readD D (at_ + 1)).1 1).1
    · rw [if_pos hb, if_neg (by omega), if_neg (by omega)]
    · rw [if_neg hb, if_pos (by omega)]
theorem rload_ok (a : At h (Rv b D)) (w : D.Wf n) (hq : D.queue.length ≤ 100000) {at_ : Int} (h1 : -1000000 ≤ at_) (h2 : at_ ≤ 1000000) :
    CallsH Try.prog n_ref08_Load #[ptr b, .int .i64 at_] h fun v h' => (∃ p l c, v = .tuple #[.int .u64 (loadD D at_).1.1, .slice p l c, .int .i64 (loadD D at_).2] ∧ Bs h' p l (loadD D at_).1.2) ∧ h' = h := by
  refine C_ref08_Load (some (Addr.mk b 0 none)) at_ ?_
  unfold F_ref08_Load
  have hnil : Bs h none 0 [] := ⟨rfl, Rd.nil _ _⟩
  refine (rread_ok a w (by omega) at_).mono fun v h1' ⟨⟨p2, l3, c4, hv, hb0, hc0⟩, hh⟩ => ?_
  subst hh
  refine ⟨Ext.refl _, p2, l3, c4, _, hv, ?_⟩
  rw [br_bne]
  refine ⟨fun hne => ?_, fun he0 => ?_⟩
  · have e : loadD D at_ = ((0, []), (readD D at_).2) := by rw [loadD, if_pos hne]
    rw [e]
    exact ⟨⟨none, 0, 0, rfl, hnil⟩, rfl⟩
  rw [wrap_i64 (by omega) (by omega)]
  refine (rread_ok a w (by omega) (at_ + 1)).mono fun v h7 ⟨⟨p8, l9, c10, hv, hb1, hc1⟩, hh⟩ => ?_
  subst hh
  refine ⟨Ext.refl _, p8, l9, c10, _, hv, ?_⟩
  rw [br_bne]
  refine ⟨fun hne => ?_, fun he1 => ?_⟩
  · have e : loadD D at_ = ((0, []), (readD D (at_ + 1)).2) := by rw [loadD, if_neg (by simpa using he0), if_pos hne]
    rw [e]
    exact ⟨⟨none, 0, 0, rfl, hnil⟩, rfl⟩
  have f0 := readD_full w he0
  have f1 := readD_full w he1
  have hld := loadD_right D at_ he0 he1
  have g0 := hb0.1
  have g1 := hb1.1
  obtain rfl : l3 = 128 := by omega
  obtain rfl : l9 = 128 := by omega
  refine (right_ok hb0 hc0 0 (by omega)).mono fun v h13 ⟨⟨p15, l16, c17, hv, hr0⟩, hh⟩ => ?_
  subst hh
  refine ⟨Ext.refl _, _, p15, l16, c17, hv, ?_⟩
  refine (right_ok hb1 hc1 1 (by omega)).mono fun v h19 ⟨⟨p21, l22, c23, hv, hr1⟩, hh⟩ => ?_
  subst hh
  refine ⟨Ext.refl _, _, p21, l22, c23, hv, ?_⟩
  rw [hld]
  generalize rightB (readD D at_).1 0 = A at *
  generalize rightB (readD D (at_ + 1)).1 1 = B at *
  have last : ¬(A.1 = 0 ∧ B.1 = 0) → br (decide ((A.1 : Int) > B.1))
      ((∃ p l c, Value.tuple #[.int .u64 A.1, .slice p15 l16 c17, .int .i64 0] = .tuple #[.int .u64 (if A.1 = 0 ∧ B.1 = 0 then (0, []) else if B.1 < A.1 then A else B).1, .slice p l c, .int .i64 0] ∧ Bs h19 p l (if A.1 = 0 ∧ B.1 = 0 then (0, []) else if B.1 < A.1 then A else B).2) ∧ h19 = h19)
      ((∃ p l c, Value.tuple #[.int .u64 B.1, .slice p21 l22 c23, .int .i64 0] = .tuple #[.int .u64 (if A.1 = 0 ∧ B.1 = 0 then (0, []) else if B.1 < A.1 then A else B).1, .slice p l c, .int .i64 0] ∧ Bs h19 p l (if A.1 = 0 ∧ B.1 = 0 then (0, []) else if B.1 < A.1 then A else B).2) ∧ h19 = h19) := by
    intro hn
    rw [if_neg hn, br_decide]
    refine ⟨fun hgt => ?_, fun hgt => ?_⟩
    · rw [if_pos (by omega)]
      exact ⟨⟨_, _, _, rfl, hr0⟩, rfl⟩
    · rw [if_neg (by omega)]
      exact ⟨⟨_, _, _, rfl, hr1⟩, rfl⟩
  rw [br_beq]
  refine ⟨fun hz => ?_, fun hz => last (by omega)⟩
  rw [br_beq]
  refine ⟨fun hz2 => ?_, fun hz2 => last (by omega)⟩
  rw [if_pos (by omega)]
  exact ⟨⟨none, 0, 0, rfl, hnil⟩, rfl⟩
theorem rsave_ok {xs : List UInt8} {p : Option Addr} {l c : Nat} (hs : St h0 h (Rv b D :: rdo 1 p l (bcs xs) :: F)) (w : D.Wf n) (hq : D.queue.length ≤ 90000) {at_ : Int} (h1 : -1000000 ≤ at_) (h2 : at_ ≤ 1000000) :
    CallsH Try.prog n_ref08_Save #[ptr b, .int .i64 at_, .slice p l c] h fun v h' => v = .tuple #[.int .u64 (saveD D at_ xs).1.1, .int .i64 (saveD D at_ xs).1.2] ∧ St h0 h' (Rv b (saveD D at_ xs).2 :: rdo 1 p l (bcs xs) :: F) := by
  refine C_ref08_Save (some (Addr.mk b 0 none)) at_ p l c ?_
  unfold F_ref08_Save
  have hxl := (bs_rdo hs.up1.at).1
  rw [br_decide]
  refine ⟨fun hl => ?_, fun hl => ?_⟩
  · have e : saveD D at_ xs = ((0, 3), D) := by rw [saveD, if_pos (by omega)]
    rw [e]; exact ⟨rfl, hs⟩
  have hl' : ¬ 110 < xs.length := by omega
  have hlt := loadD_lt D at_
  refine (rload_ok hs.at w (by omega) h1 h2).mono fun v h1' ⟨⟨p3, l4, c5, hv, hb⟩, hh⟩ => ?_
  subst hh
  refine ⟨Ext.refl _, _, p3, l4, c5, _, hv, ?_⟩
  have s := hs
  rw [br_bne]
  refine ⟨fun hne => ?_, fun heq => ?_⟩
  · have e : saveD D at_ xs = ((0, (loadD D at_).2), D) := by rw [saveD, if_neg hl', if_pos hne]
    rw [e]; exact ⟨rfl, s⟩
  have heq' : ¬ (loadD D at_).2 ≠ 0 := by simpa using heq
  rw [br_beq]
  refine ⟨fun hfull => ?_, fun hfull => ⟨by omega, ?_⟩⟩
  · have e : saveD D at_ xs = ((0, 5), D) := by rw [saveD, if_neg hl', if_neg heq', if_pos (by omega)]
    rw [e]; exact ⟨rfl, s⟩
  have hw : IntKind.wrap .u64 (((loadD D at_).1.1 : Int) + 1) = (((loadD D at_).1.1 + 1 : Nat) : Int) := by rw [wrap_u64]; omega
  have hsv : saveD D at_ xs = if (writeD D (at_ + (((loadD D at_).1.1 + 1) % 2 : Nat)) (pageB ((loadD D at_).1.1 + 1) xs)).1 ≠ 0 then ((0, (writeD D (at_ + (((loadD D at_).1.1 + 1) % 2 : Nat)) (pageB ((loadD D at_).1.1 + 1) xs)).1), (writeD D (at_ + (((loadD D at_).1.1 + 1) % 2 : Nat)) (pageB ((loadD D at_).1.1 + 1) xs)).2)
    else if (flushD (writeD D (at_ + (((loadD D at_).1.1 + 1) % 2 : Nat)) (pageB ((loadD D at_).1.1 + 1) xs)).2).1 ≠ 0 then ((0, (flushD (writeD D (at_ + (((loadD D at_).1.1 + 1) % 2 : Nat)) (pageB ((loadD D at_).1.1 + 1) xs)).2).1), (flushD (writeD D (at_ + (((loadD D at_).1.1 + 1) % 2 : Nat)) (pageB ((loadD D at_).1.1 + 1) xs)).2).2)
    else (((loadD D at_).1.1 + 1, 0), (flushD (writeD D (at_ + (((loadD D at_).1.1 + 1) % 2 : Nat)) (pageB ((loadD D at_).1.1 + 1) xs)).2).2) := by rw [saveD, if_neg hl', if_neg heq', if_neg (by omega)]
  rw [hsv, hw]
  clear hsv hw heq heq'
  have hpos : 0 < (loadD D at_).1.1 + 1 := by omega
  have hlt2 : (loadD D at_).1.1 + 1 < 18446744073709551616 := by omega
  generalize (loadD D at_).1.1 + 1 = ser at *
  refine (page_ok (bs_rdo s.up1.at) (by omega) ser hlt2).mono fun v h8 ⟨p9, l10, c11, hv, nw⟩ => ⟨nw.ext, p9, l10, c11, hv, ?_⟩
  have htm : IntKind.wrap .i64 (at_ + IntKind.wrap .i64 (Int.tmod (ser : Int) 2)) = at_ + ((ser % 2 : Nat) : Int) := by
    rw [Int.tmod_eq_emod_of_nonneg (by omega), wrap_i64 (n := (ser : Int) % 2) (by omega) (by omega), wrap_i64 (by omega) (by omega)]; omega
  rw [htm]
  have s := s.join nw
  simp only [List.cons_append, List.nil_append] at s
  have w2 := writeD_wf w (at_ + ((ser % 2 : Nat) : Int)) (pageB ser xs)
  have q2 := writeD_q (D := D) (at_ + ((ser % 2 : Nat) : Int)) (pageB ser xs)
  refine (rwrite_ok s.ro.up1 w (at_ + ((ser % 2 : Nat) : Int)) (by omega)).mono fun v h14 ⟨hv, s⟩ => ⟨_, hv, ?_⟩
  generalize writeD D (at_ + ((ser % 2 : Nat) : Int)) (pageB ser xs) = WR at *
  rw [br_beq]
  refine ⟨fun heq => ?_, fun hne => ?_⟩
  · rw [if_neg (by omega)]
    refine (rflush_ok s.up1.drop w2 (by omega)).mono fun v h17 ⟨hv, s⟩ => ⟨_, hv, ?_⟩
    rw [br_bne]
    refine ⟨fun hne => ?_, fun heq => ?_⟩
    · rw [if_pos hne]
      exact ⟨rfl, s⟩
    · rw [if_neg (by simpa using heq)]
      exact ⟨rfl, s⟩
  · rw [if_pos hne, br_bne]
    exact ⟨fun _ => ⟨rfl, s.up1.drop⟩, fun h => absurd h hne⟩
end
end Go.Proofs.Ytkeggnfffnodmaa
