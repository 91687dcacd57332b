/- Layer 10: the vault's functions, second part. -/
import Derived.Test.Ytbmhphnidfpclaavg
set_option linter.unusedVariables false
set_option maxRecDepth 100000
namespace Go.Proofs.Ytbmhphnidfpclaa
open Go Go.Vc Go.Proofs
theorem vsaveD_wf {D : Dev} {n : Nat} (w : D.Wf n) (xs : List UInt8) : (saveD D 0 xs).2.Wf n := by
  unfold saveD
  split
  · exact w
  · split
    · exact w
    · split
      · exact w
      · split
        · exact writeD_wf w _ _
        · split <;> exact flushD_wf (writeD_wf w _ _)
theorem vsaveD_q {D : Dev} (xs : List UInt8) : (saveD D 0 xs).2.queue.length ≤ D.queue.length + 1 := by
  have key : ∀ i ys, (writeD D i ys).2.queue.length ≤ D.queue.length + 1 := fun i ys => writeD_q i ys
  unfold saveD
  split
  · exact Nat.le_succ _
  · split
    · exact Nat.le_succ _
    · split
      · exact Nat.le_succ _
      · split
        · exact key _ _
        · split <;> exact Nat.le_trans flushD_q (key _ _)
theorem saveD_up {D : Dev} {xs : List UInt8} (h : (saveD D 0 xs).1.2 = 0) : (saveD D 0 xs).2.down = false := by
  unfold saveD at h ⊢
  split at h
  · cases h
  · rename_i h1
    rw [if_neg h1]
    split at h
    · rename_i h2; exact absurd h h2
    · rename_i h2
      rw [if_neg h2]
      split at h
      · cases h
      · rename_i h3
        rw [if_neg h3]
        split at h
        · rename_i h4; exact absurd h h4
        · rename_i h4
          rw [if_neg h4]
          split at h
          · rename_i h5; exact absurd h h5
          · rename_i h5
            rw [if_neg h5]
            dsimp only
            generalize (writeD D (0 + (((loadD D 0).1.1 + 1) % 2 : Nat)) (pageB ((loadD D 0).1.1 + 1) xs)).2 = E at *
            unfold flushD at h5 ⊢
            split
            · rename_i h6; rw [if_pos h6] at h5; simp at h5
            · rename_i h6
              rw [if_neg h6] at h5
              split
              · rename_i h7; rw [if_pos h7] at h5; simp at h5
              · rename_i h7; simpa using h7
theorem fillD_same {n : Nat} : ∀ (rs : List (List UInt8)) (L : Lg) (D : Dev), L.Wf n → D.Wf n → (fillD L D rs).2.1.Wf n ∧ (fillD L D rs).2.1.d = L.d ∧ (fillD L D rs).2.2.Wf n ∧ (fillD L D rs).2.2.queue.length ≤ D.queue.length + 55 * rs.length
  | [], L, D, w, wd => by
    obtain ⟨l1, l2, l3, l4, l5⟩ := flushL_lwf (D := D) w
    exact ⟨l1, l2, flushL_wf wd, by have := flushL_q L D; rw [fillD]; omega⟩
  | b :: rs, L, D, w, wd => by
    obtain ⟨l1, l2, l3, l4, l5⟩ := appendD_lwf (D := D) w b
    have q := appendD_q L D b
    rw [fillD, List.length_cons]
    split
    · exact ⟨l1, l2, appendD_wf wd b, by omega⟩
    · obtain ⟨k1, k2, k3, k4⟩ := fillD_same rs _ _ l1 (appendD_wf (L := L) wd b)
      exact ⟨k1, by rw [k2, l2], k3, by omega⟩
theorem openL_wf {D : Dev} {n d : Nat} {s : Vs} (wd : D.Wf n) (hn : 2 ≤ n) (hg : s.gen < 4294967296) : (openL n d s D).Wf n := by
  have hf := from_fit hn s.sec
  refine ⟨?_, hf, wd.max, hg⟩
  have hsc := scanL_le (reg D (fromN n s.sec) (spN n)) 0 s.least 0 [] [] 0 (Nat.zero_le _)
  rw [reg_length wd hf, Nat.zero_add] at hsc
  exact hsc
section
variable {h0 h : Heap} {F : List HP} {b d n lb : Nat} {D : Dev} {s : Vs} {lg : Option Addr} {ov : Bool} {V : VT}
theorem vopen_ok {c : Nat} {y : List (List UInt8)} (hs : St h0 h (Dv d D :: F)) (r : Rest D n c s y) (h4 : 4 ≤ n) (hsp : spN n < 255) (hc : c + 3 < 18446744073709551616) (hg : s.gen + 1 < 4294967296) :
    CallsH Try.prog n_vault_Open #[ptr d] h fun v h' =>
      ((saveD D 0 (encV s.next)).1.2 = 0 ∧ ∃ vb lb p l c' S, v = .tuple #[ptr vb, .slice p l c', .int .i64 0] ∧ rL S = y ∧
        St h0 h' (Vv vb d s.next (some (Addr.mk lb 0 none)) false :: Lv lb (openL n d s.next (saveD D 0 (encV s.next)).2) :: Dv d (saveD D 0 (encV s.next)).2 :: own 1 p l c' (S.map (·.1.v)) :: owns S :: F)) ∨
      ((saveD D 0 (encV s.next)).1.2 = 6 ∧ v = .tuple #[.pointer none, .slice none 0 0, .int .i64 6] ∧ St h0 h' (Dv d (saveD D 0 (encV s.next)).2 :: F)) := by
  refine C_vault_Open (some (Addr.mk d 0 none)) ?_
  unfold F_vault_Open
  have w := r.wf
  have hlen := w.len
  have hmax := w.max
  obtain ⟨v0, hld, hv0⟩ := r.load (by omega)
  have hl1 := r.least1
  have hlg : s.least ≤ s.gen + 1 := by
    by_cases h : c = 0
    · rw [r.zero h]; decide
    · have := r.leastg (by omega); omega
  refine (pages_ok hs.at).mono fun v h1 ⟨hv, hh⟩ => ?_
  subst hh
  refine ⟨Ext.refl _, _, hv, br_no (by simp; omega) ?_⟩
  refine (load_ok hs.at w (at_ := 0) (by omega) (by omega)).mono fun v h4' ⟨p6, l7, c8, hv, nw⟩ => ⟨nw.ext, _, p6, l7, c8, _, hv, ?_⟩
  rw [hld] at nw ⊢
  refine br_no rfl ?_
  have st := hs.join nw
  simp only [List.cons_append, List.nil_append] at st
  refine st.newBlk fun b10 h11 _ st _ => ?_
  refine st.storeAll (by simp) (by simp) (by intro v hv; simp at hv; rcases hv with rfl | rfl | rfl <;> rfl) fun h12 st => ?_
  refine ⟨fun _ h' => St h0 h' (pts b10 0 false s.r :: Dv d D :: F), ?_, ?_⟩
  · dsimp only
    rw [br_decide]
    refine ⟨fun hp => ?_, fun hz => ?_⟩
    · have hcp : 0 < c := by omega
      rw [hv0 hcp] at st
      refine (vdecode_ok (bs_own st.up1.at) hl1 (r.leastg hcp) (by omega)).mono fun v h15 ⟨hv, e⟩ => ⟨e, _, rfl, true, hv, ?_⟩
      have st := st.keep e
      refine st.newBlk fun b18 h19 _ st _ => ?_
      refine st.storeAll (by simp) (by simp) (by intro v hv; simp at hv; rcases hv with rfl | rfl | rfl <;> rfl) fun h20 st => br_no rfl ?_
      refine ⟨_, st.row0 rfl, ?_⟩
      refine st.up1.storeAll (by simp) (by simp) (by intro v hv; simp at hv; rcases hv with rfl | rfl | rfl <;> rfl) fun h22 st => ?_
      exact ((st.up1.drop).up1.drop)
    · have hz : c = 0 := by omega
      rw [r.zero hz]
      exact st.up1.drop
  clear st
  rintro _ h24 st
  simp only [add_mk, Nat.zero_add]
  have hwg : IntKind.wrap .u32 ((s.gen : Int) + 1) = ((s.gen + 1 : Nat) : Int) := by rw [wrap_u32]; omega
  unfold Vs.r at st
  refine ⟨_, st.cell0 (i := 2) rfl, st.store0 (i := 2) (by simp) rfl fun h26 st => st.newBlk fun b27 h28 _ st _ => ?_⟩
  rw [hwg] at st
  refine ⟨_, st.up1.row0 rfl, ?_⟩
  have st : St h0 h28 (Vv b27 d ⟨false, 0, 0⟩ none false :: pts b10 0 false [.bool s.sec, .int .u32 s.least, .int .u32 ((s.gen + 1 : Nat) : Int)] :: Dv d D :: F) := st
  refine (vsave_ok (L := ⟨0, 0, 0, 0, 0, false⟩) st.up2.up1 w (by rw [r.queue]; exact Nat.zero_le _) s.next (by show s.least < _; omega) hg).mono fun v h31 ⟨hv, st⟩ => ⟨_, hv, ?_⟩
  rcases r.open hsp (by omega) hc hg d with ⟨r0, r1, r2, _⟩ | ⟨r6, _⟩
  rotate_left
  · rw [saveT_six r6] at st ⊢
    refine br_yes rfl (.inr ⟨r6, rfl, ?_⟩)
    exact (st.drop).up1.drop
  rw [saveT_zero r0 rfl] at st ⊢
  dsimp only at st ⊢
  refine br_no rfl ?_
  have w2 := vsaveD_wf w (encV s.next)
  generalize (saveD D 0 (encV s.next)).2 = D2 at *
  refine ⟨_, st.up2.cell0 (i := 0) rfl, _, st.up2.cell0 (i := 1) rfl, _, st.up2.cell0 (i := 2) rfl, ?_⟩
  refine (from_ok st.at st.up1.at w2 (by omega) s.sec).mono fun v h37 ⟨hv, hh⟩ => ?_
  subst hh
  refine ⟨Ext.refl _, _, hv, ?_⟩
  refine (space_ok st.at st.up1.at w2 (by omega)).mono fun v h40 ⟨hv, hh⟩ => ?_
  subst hh
  refine ⟨Ext.refl _, _, hv, ?_⟩
  refine (open_ok st.up1.at w2 r1 (from_fit (by omega) s.sec) hl1 hlg hg).mono fun v h43 ⟨lb, p45, l46, c47, S, hv, hS, nw⟩ => ⟨nw.ext, _, p45, l46, c47, 0, hv, br_no rfl ?_⟩
  have st := (st.join nw)
  simp only [List.cons_append, List.nil_append] at st
  have st := st.up3
  unfold Vv at st
  refine st.store0 (i := 4) (by simp) rfl fun h49 st => .inl ⟨r0, b27, lb, p45, l46, c47, S, rfl, by rw [hS, r2], ?_⟩
  have st := ((st.up5.drop).up4).up2.up2
  exact st
end
end Go.Proofs.Ytbmhphnidfpclaa
