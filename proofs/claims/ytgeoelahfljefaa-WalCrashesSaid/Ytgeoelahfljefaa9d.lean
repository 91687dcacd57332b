/- Layer 9: a log is opened. -/
import Derived.Test.Ytgeoelahfljefaa9c
set_option linter.unusedVariables false
set_option maxRecDepth 100000
namespace Go.Proofs.Ytgeoelahfljefaa
open Go Go.Vc Go.Proofs
/-- The records of pages, and where the next one begins. -/
def scanL : List (List UInt8) → Nat → Nat → Nat → List UInt8 → List (List UInt8) → Nat → List (List UInt8) × Nat
  | [], _, _, _, _, recs, nx => (recs, nx)
  | p :: ps, at_, least, bg, rc, recs, nx => match decW p (at_ + 1) least with
    | none => (recs, nx)
    | some (g, k, b) => if ¬(bg = 0 ↔ k % 2 = 1) ∨ (bg ≠ 0 ∧ g ≠ bg) ∨ 6000 < (rc ++ b).length then (recs, nx)
      else if k / 2 % 2 = 1 then scanL ps (at_ + 1) g 0 [] (recs ++ [rc ++ b]) (at_ + 1) else scanL ps (at_ + 1) g g (rc ++ b) recs nx
def scanD (D : Dev) (start count least : Nat) : List (List UInt8) × Nat := scanL ((D.seen.drop start).take count) 0 least 0 [] [] 0
theorem scanL_cons (p : List UInt8) (ps : List (List UInt8)) (at_ least bg : Nat) (rc : List UInt8) (recs : List (List UInt8)) (nx : Nat) : scanL (p :: ps) at_ least bg rc recs nx = match decW p (at_ + 1) least with
    | none => (recs, nx)
    | some (g, k, b) => if ¬(bg = 0 ↔ k % 2 = 1) ∨ (bg ≠ 0 ∧ g ≠ bg) ∨ 6000 < (rc ++ b).length then (recs, nx)
      else if k / 2 % 2 = 1 then scanL ps (at_ + 1) g 0 [] (recs ++ [rc ++ b]) (at_ + 1) else scanL ps (at_ + 1) g g (rc ++ b) recs nx := rfl
theorem scanL_le : ∀ (ps : List (List UInt8)) (at_ least bg : Nat) (rc : List UInt8) (recs : List (List UInt8)) (nx : Nat), nx ≤ at_ + ps.length → (scanL ps at_ least bg rc recs nx).2 ≤ at_ + ps.length
  | [], at_, least, bg, rc, recs, nx, h => h
  | p :: ps, at_, least, bg, rc, recs, nx, h => by
    unfold scanL
    simp only [List.length_cons] at h ⊢
    split
    · exact h
    · split
      · exact h
      · split
        · rename_i g k b _ _ _
          have := scanL_le ps (at_ + 1) g 0 [] (recs ++ [rc ++ b]) (at_ + 1) (Nat.le_add_right _ _)
          rw [show at_ + (ps.length + 1) = at_ + 1 + ps.length by omega]; exact this
        · rename_i g k b _ _ _
          have := scanL_le ps (at_ + 1) g g (rc ++ b) recs nx (by omega)
          rw [show at_ + (ps.length + 1) = at_ + 1 + ps.length by omega]; exact this
section
variable {h0 h : Heap} {F G : List HP} {b n : Nat} {D : Dev} {L : Lg}
theorem may_ok (a : At h (Dv b D)) (w : D.Wf n) {start count least gen : Nat} (hr : start + count ≤ n) (h1 : 1 ≤ least) (hg : least ≤ gen) :
    CallsH Try.prog n_wal_may #[ptr b, .int .i64 start, .int .i64 count, .int .u32 least, .int .u32 gen] h fun v h' => v = .bool true ∧ h' = h := by
  refine C_wal_may (some (Addr.mk b 0 none)) start count least gen ?_
  unfold F_wal_may
  have hn := w.len
  have hm := w.max
  refine br_yes rfl (br_yes (by simp) (br_yes (by simp) ?_))
  refine (pages_ok a).mono fun v h1 ⟨hv, hh⟩ => ?_
  subst hh
  refine ⟨Ext.refl _, _, hv, br_yes (by simp; omega) ?_⟩
  refine (pages_ok a).mono fun v h4 ⟨hv, hh⟩ => ?_
  subst hh
  refine ⟨Ext.refl _, _, hv, br_yes ?_ (br_yes (by simp; omega) ⟨?_, by trivial⟩)⟩
  · rw [wrap_i64 (by omega) (by omega)]; simp; omega
  · rw [decide_eq_true (by omega)]
theorem St.three {A B C : HP} (hs : St h0 h (A :: B :: C :: F)) : St h0 h [A, B, C] := hs.conseq fun m ⟨m1, m2, a1, a2, c1, q1, m3, m4, a3, a4, c2, q2, m5, m6, a5, a6, c3, q3, _⟩ =>
  ⟨m1, m2, a1, a2, c1, q1, m3, m4, a3, a4, c2, q2, m5, m6, a5, a6, c3, q3, trivial⟩
theorem St.two {A B : HP} (hs : St h0 h (A :: B :: F)) : St h0 h [A, B] := hs.conseq fun m ⟨m1, m2, a1, a2, c1, q1, m3, m4, a3, a4, c2, q2, _⟩ => ⟨m1, m2, a1, a2, c1, q1, m3, m4, a3, a4, c2, q2, trivial⟩
theorem St.one {A : HP} (hs : St h0 h (A :: F)) : St h0 h [A] := hs.conseq fun m ⟨m1, m2, a1, a2, c1, q1, _⟩ => ⟨m1, m2, a1, a2, c1, q1, trivial⟩
/-- What opening a log answers. -/
def Opened (h : Heap) (d start count gen : Nat) (r : List (List UInt8) × Nat) (v : Value) (h' : Heap) : Prop :=
  ∃ (lb : Nat) (p : Option Addr) (l c : Nat) (S : List Pg), v = .tuple #[ptr lb, .slice p l c, .int .i64 0] ∧ rL S = r.1 ∧ New h h' [Lv lb ⟨d, start, count, gen, r.2, false⟩, own 1 p l c (S.map (·.1.v)), owns S]
theorem open_ok (a : At h (Dv b D)) (w : D.Wf n) (hd : D.down = false) {start count least gen : Nat} (hr : start + count ≤ n) (h1 : 1 ≤ least) (hg : least ≤ gen) (hgm : gen < 4294967296) :
    CallsH Try.prog n_wal_Open #[ptr b, .int .i64 start, .int .i64 count, .int .u32 least, .int .u32 gen] h (Opened h b start count gen (scanD D start count least)) := by
  refine C_wal_Open (some (Addr.mk b 0 none)) start count least gen ?_
  unfold F_wal_Open
  have hm := w.max
  have hsl := w.seenLen
  refine (may_ok a w hr h1 hg).mono fun v h1' ⟨hv, hh⟩ => ?_
  subst hh
  refine ⟨Ext.refl _, true, hv, br_no rfl ((St.start h1').newBlk fun b3 h4 _ s _ => ?_)⟩
  unfold scanD
  generalize hpgs : (D.seen.drop start).take count = pgs
  have hpl : pgs.length = count := by rw [← hpgs, List.length_take, List.length_drop]; omega
  have hpg : ∀ k (hk : k < pgs.length), readD D ((start + k : Nat) : Int) = (pgs[k], 0) ∧ pgs[k].length = 128 := fun k hk => by
    have hlt : start + k < D.seen.length := by omega
    have e : pgs[k] = D.seen[start + k] := by
      subst hpgs
      rw [List.getElem_take, List.getElem_drop]
    refine ⟨?_, by rw [e]; exact w.seenPages _ (List.getElem_mem _)⟩
    rw [readD, if_pos (reach_zero w hd (by omega)), Int.toNat_natCast, List.getD_eq_getElem?_getD, List.getElem?_eq_getElem hlt, e]; rfl
  have fin : ∀ {h' : Heap} {G : List HP} {p : Option Addr} {l c nx : Nat} {S : List Pg}, scanL pgs 0 least 0 [] [] 0 = (rL S, nx) → St h1' h' (Lv b3 ⟨b, start, count, gen, nx, false⟩ :: own 1 p l c (S.map (·.1.v)) :: owns S :: G) →
      Opened h1' b start count gen (scanL pgs 0 least 0 [] [] 0) (.tuple #[ptr b3, .slice p l c, .int .i64 0]) h' := by
    intro h' G p l c nx S he s
    rw [he]
    exact ⟨b3, p, l, c, S, rfl, rfl, (St.three s).new ⟨owns_Lv, owns_own, owns_owns S, trivial⟩⟩
  have s : St h1' h4 [Lv b3 ⟨b, start, count, gen, 0, false⟩] := s
  refine ⟨fun st h' => ∃ (k lst : Nat) (S : List Pg), st.1 = lst ∧ st.2.2 = k ∧ k ≤ count ∧ 1 ≤ lst ∧ lst < 4294967296 ∧ S.length ≤ k ∧ scanL pgs 0 least 0 [] [] 0 = scanL (pgs.drop k) k lst 0 [] (rL S) k ∧
    St h1' h' [Lv b3 ⟨b, start, count, gen, k, false⟩, own 1 st.2.1.1 st.2.1.2.1 st.2.1.2.2 (S.map (·.1.v)), owns S], fun st _ => ((count : Int) - st.2.2).toNat,
    ⟨0, least, [], rfl, rfl, Nat.zero_le _, h1, by omega, Nat.le_refl _, rfl, ((s.ownsNil).nil 1).up2⟩, ?_⟩
  clear s
  rintro ⟨lst', ⟨sp, sl, sc⟩, i⟩ h8 ⟨k0, lst0, S, rfl, rfl, hk0, hl0, hl0', hS0, hsc0, s⟩
  dsimp only at *
  rw [br_decide]
  refine ⟨fun hlt0 => ?_, fun hge => ?_⟩
  rotate_left
  · obtain rfl : k0 = count := by omega
    rw [List.drop_of_length_le (by omega)] at hsc0
    exact fin hsc0 s
  refine ⟨fun st h' => ∃ (k lst bg nx : Nat) (rc : List UInt8), st.1 = lst ∧ st.2.1 = (sp, sl, sc) ∧ st.2.2.1 = k ∧ st.2.2.2.2 = bg ∧ k0 ≤ k ∧ k ≤ count ∧ 1 ≤ lst ∧ lst < 4294967296 ∧ bg < 4294967296 ∧ rc.length ≤ 6000 ∧ scanL pgs 0 least 0 [] [] 0 = scanL (pgs.drop k) k lst bg rc (rL S) k0 ∧
    St h1' h' [Lv b3 ⟨b, start, count, gen, k0, false⟩, own 1 sp sl sc (S.map (·.1.v)), owns S, own 1 st.2.2.2.1.1 st.2.2.2.1.2.1 st.2.2.2.1.2.2 (bcs rc)], fun st _ => ((count : Int) - st.2.2.1).toNat,
    ⟨k0, lst0, 0, 0, [], rfl, rfl, rfl, rfl, Nat.le_refl _, hk0, hl0, hl0', by omega, by simp, hsc0, (s.nil 1).up3.up3.up3⟩, ?_⟩
  clear s
  rintro ⟨lst', ⟨sp', sl', sc'⟩, i, ⟨rp, rl, rcc⟩, bg'⟩ h12 ⟨k, lst, bg, nx, rc, rfl, hsp, rfl, rfl, hkk, hk, hl, hl', hbg, hrc, hsc, s⟩
  dsimp only at *
  obtain ⟨rfl, rfl, rfl⟩ : sp = sp' ∧ sl = sl' ∧ sc = sc' := by simpa [eq_comm] using hsp
  rw [br_beq]
  refine ⟨fun hkc => ?_, fun hkc => ?_⟩
  · obtain rfl : k = count := by omega
    rw [List.drop_of_length_le (by omega)] at hsc
    exact fin hsc s
  have hkl : k < pgs.length := by omega
  obtain ⟨hread, hp128⟩ := hpg k hkl
  rw [wrap_i64 (by omega) (by omega), wrap_i64 (by omega) (by omega)]
  have hix : (start : Int) + k = ((start + k : Nat) : Int) := by omega
  rw [hix]
  rw [List.drop_eq_getElem_cons hkl, scanL_cons] at hsc
  have s0 := s.ext
  refine (read_ok (a.ext s.ext) w ((start + k : Nat) : Int)).mono fun v h14 ⟨p15, l16, c17, hv, nw⟩ => ?_
  rw [hread] at hv nw
  refine ⟨nw.ext, p15, l16, c17, 0, hv, br_no rfl ?_⟩
  have hpl1 : (k : Int) + 1 = ((k + 1 : Nat) : Int) := by omega
  rw [hpl1]
  refine (parted_ok (bs_own nw.st.at) hp128 (place := k + 1) (least := lst) (by omega) hl').mono fun v h20 ⟨g, pl, kd, p', l', c', t, part, hv, hdec, hpart, hkd, nw2⟩ => ⟨nw2.ext, _, rfl, t, hv, ?_⟩
  have s := (s.keep nw.ext).join nw2
  simp only [List.cons_append, List.nil_append] at s
  refine s.newBlk fun b23 h24 _ s _ => s.storeAll (by simp) (by simp) (one_part _ _ _ _ _ _) fun h25 s => ?_
  have s : St h1' h25 [Lv b3 ⟨b, start, count, gen, k0, false⟩, own 1 sp sl sc (S.map (·.1.v)), owns S, pts b23 0 false [.int .u32 g, .int .i64 pl, .int .i64 kd, .slice p' l' c'], own 1 p' l' c' (bcs part), own 1 rp rl rcc (bcs rc)] := s.up4.up4.up4
  cases t
  · have hdec : decW pgs[k] (k + 1) lst = none := hdec
    rw [hdec] at hsc
    exact ⟨fun _ _ => False, br_yes rfl (fin hsc s), fun _ _ hf => hf.elim⟩
  have hdec : decW pgs[k] (k + 1) lst = some (g, kd, part) := hdec
  rw [hdec] at hsc
  dsimp only at hsc
  have hg1 : 1 ≤ g ∧ g < 4294967296 := by
    unfold decW at hdec
    split at hdec
    · rename_i hh
      have h1 := hh.2.2.2.2.2.2
      have h2 := mk9_lt pgs[k]
      cases hdec
      omega
    · cases hdec
  simp only [add_mk, Nat.zero_add]
  refine ⟨fun _ h' => ¬(¬(bg = 0 ↔ kd % 2 = 1) ∨ (bg ≠ 0 ∧ g ≠ bg)) ∧ St h1' h' [Lv b3 ⟨b, start, count, gen, k0, false⟩, own 1 sp sl sc (S.map (·.1.v)), owns S, pts b23 0 false [.int .u32 g, .int .i64 pl, .int .i64 kd, .slice p' l' c'], own 1 p' l' c' (bcs part), own 1 rp rl rcc (bcs rc)], ?_, ?_⟩
  · refine br_no rfl ⟨_, s.up3.cell0 (i := 2) rfl, ?_⟩
    rw [andI_1 hkd]
    have e1 : ((bg : Int) == 0) = decide (bg = 0) := by rw [Bool.eq_iff_iff, beq_iff_eq, decide_eq_true_iff]; omega
    have e2 : (((kd % 2 : Nat) : Int) != 0) = decide (kd % 2 = 1) := by rw [Bool.eq_iff_iff, bne_iff_ne, decide_eq_true_iff]; omega
    rw [e1, e2]
    by_cases hc1 : (bg = 0 ↔ kd % 2 = 1)
    · have e3 : (decide (bg = 0) == decide (kd % 2 = 1)) = true := by rw [beq_iff_eq, decide_eq_decide]; exact hc1
      rw [e3]
      refine br_no rfl ?_
      rw [br_bne]
      refine ⟨fun hb0 => ⟨_, s.up3.cell0 (i := 0) rfl, ?_⟩, fun hb0 => ⟨fun hh => hh.elim (fun h => h hc1) (fun h => h.1 (by omega)), s⟩⟩
      rw [br_bne]
      refine ⟨fun hne => ?_, fun heq => ⟨fun hh => hh.elim (fun h => h hc1) (fun h => h.2 (by omega)), s⟩⟩
      rw [if_pos (.inr (.inl ⟨by omega, by omega⟩))] at hsc
      exact fin hsc s
    · have e3 : (decide (bg = 0) == decide (kd % 2 = 1)) = false := by
        rw [beq_eq_false_iff_ne]
        intro e
        exact hc1 (decide_eq_decide.1 e)
      rw [e3]
      rw [if_pos (.inl hc1)] at hsc
      exact br_yes rfl (fin hsc s)
  clear s
  rintro _ h30 ⟨hcond, s⟩
  refine ⟨_, s.up3.cell0 (i := 0) rfl, _, s.up3.cell0 (i := 0) rfl, _, _, _, s.up3.cell0 (i := 3) rfl, ?_⟩
  have s := s.up4.up5
  have hl' := s.up1.len.1
  have hrl := s.len.1
  rw [bcs_length] at hl' hrl
  refine St.append s (rd_own s.up1.at) (one_bcs part) rfl (by omega) (by unfold maxLen; omega) fun p36 c38 h39 s _ => ?_
  rw [← bcs_append] at s
  rw [br_decide]
  refine ⟨fun hgt => ?_, fun hle => ?_⟩
  · rw [if_pos (.inr (.inr (by rw [List.length_append]; omega)))] at hsc
    exact fin hsc s.up4.up4.up4
  rw [if_neg (fun hh => hh.elim (fun h => hcond (.inl h)) (fun h => h.elim (fun h => hcond (.inr h)) (fun h => by rw [List.length_append] at h; omega)))] at hsc
  have s := s.up4.up4.up4
  have hSl := s.up1.len.1
  simp only [List.length_map, Nat.mul_one] at hSl
  refine ⟨_, s.up5.cell0 (i := 2) rfl, ?_⟩
  rw [andI_2 hkd, br_bne]
  refine ⟨fun hl2 => ?_, fun hl2 => ?_⟩
  · rw [if_pos (show kd / 2 % 2 = 1 by omega)] at hsc
    refine s.newBlk fun b41 h42 _ s _ => ?_
    refine St.append (xs := [Sl.v (p36, rl + l', c38)]) s.up2 ⟨rfl, by simp only [src, Nat.one_mul]; exact s.row0 rfl⟩ (by intro v hv; simp only [List.mem_singleton] at hv; subst hv; rfl) rfl (by omega) (by unfold maxLen; omega) fun p43 c45 h46 s _ => ?_
    have s := s.up2
    unfold Lv at s
    refine s.store0 (i := 4) (by simp) rfl fun h47 s => ?_
    have s := s.up4.up4.ownsAdd
    have s := s.up2.up2
    simp only [List.set_cons_succ, List.set_cons_zero] at s
    refine ⟨⟨k + 1, g, S ++ [((p36, rl + l', c38), rc ++ part)], rfl, rfl, by omega, by omega, by omega, by simp; omega, ?_, ?_⟩, by show ((count : Int) - ((k + 1 : Nat) : Int)).toNat < ((count : Int) - (k0 : Int)).toNat; omega⟩
    · rw [hsc]; simp [rL]
    · simp only [List.map_append, List.map_cons, List.map_nil]
      exact St.three s
  · rw [if_neg (show ¬ kd / 2 % 2 = 1 by omega)] at hsc
    refine ⟨⟨k + 1, g, g, nx, rc ++ part, rfl, by trivial, rfl, rfl, by omega, by omega, by omega, by omega, by omega, by rw [List.length_append]; omega, hsc, ?_⟩, by show ((count : Int) - ((k + 1 : Nat) : Int)).toNat < ((count : Int) - (k : Int)).toNat; omega⟩
    exact s.conseq fun m ⟨m1, m2, a1, a2, c1, q1, m3, m4, a3, a4, c2, q2, m5, m6, a5, a6, c3, q3, m7, m8, a7, a8, c4, q4, _⟩ => ⟨m1, m2, a1, a2, c1, q1, m3, m4, a3, a4, c2, q2, m5, m6, a5, a6, c3, q3, m7, m8, a7, a8, c4, q4, trivial⟩
end
end Go.Proofs.Ytgeoelahfljefaa
