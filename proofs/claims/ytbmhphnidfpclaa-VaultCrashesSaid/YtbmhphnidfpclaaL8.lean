/- The slot of layer 8: what its functions answer. -/
import Derived.Test.YtbmhphnidfpclaaL7
import Derived.Test.YtbmhphnidfpclaaL1
import Derived.Test.YtbmhphnidfpclaaS
import Derived.Test.YtbmhphnidfpclaaFa
set_option linter.unusedVariables false
set_option maxRecDepth 100000
namespace Go.Proofs.Ytbmhphnidfpclaa
open Go Go.Vc Go.Proofs

/-- A page. -/
def pageB (s : Nat) (v : List UInt8) : List UInt8 := numB s 8 ++ (numB v.length 2 ++ v) ++ List.replicate (110 - v.length) 0 ++ numB s 8
theorem pageB_length {s : Nat} {v : List UInt8} (h : v.length ≤ 110) : (pageB s v).length = 128 := by
  simp [pageB, numB_length]; omega
/-- What stands at the ends of a page. -/
def headB (b : List UInt8) : Nat := valB (b.take 8)
def countB (b : List UInt8) : Nat := valB ((b.drop 8).take 2)
def tailB (b : List UInt8) : Nat := valB (b.drop 120)
def textB (b : List UInt8) : List UInt8 := (b.drop 10).take (countB b)
/-- A page's serial and value; none: it isn't right. -/
def decB (b : List UInt8) : Option (Nat × List UInt8) := if countB b ≤ 110 ∧ tailB b = headB b ∧ headB b ≠ 0 then some (headB b, textB b) else none
theorem countB_lt (b : List UInt8) : countB b < 65536 := by
  have := valB_le (bs := (b.drop 8).take 2) (n := 2) (by rw [List.length_take]; omega)
  simpa [countB] using this
section
variable {h0 h : Heap} {F : List HP} {b n : Nat} {D : Dev}
theorem encode_ok {xs : List UInt8} {p : Option Addr} {l c : Nat} (hx : Bs h p l xs) (hl : xs.length ≤ 110) (s : Nat) :
    CallsH Try.prog n_slot_encode #[.int .u64 s, .slice p l c] h fun v h' => ∃ p' l' c', v = .tuple #[.slice p' l' c', .int .i64 0] ∧ New h h' [own 1 p' l' c' (bcs (pageB s xs))] := by
  refine C_slot_encode s p l c ?_
  unfold F_slot_encode
  have hxl := hx.1
  refine (St.start h).newBlk fun b h1 _ s1 _ => ?_
  have s1 := W.mk s1
  refine (u64_put s1 s (by simp)).mono fun v h3 ⟨hv, s1⟩ => ⟨hv, ?_⟩
  simp only [putS, List.nil_append] at s1
  refine (string_put (c := c) ((s1.old hx.2).up1) (by simp [numB_length]; omega)).mono fun v h5 ⟨hv, s1⟩ => ⟨hv, ?_⟩
  rw [if_pos (by omega)] at s1
  simp only [putS] at s1
  have hw : IntKind.wrap .i64 (110 - (l : Int)) = ((110 - l : Nat) : Int) := by rw [wrap_i64 (by omega) (by omega)]; omega
  rw [hw]
  refine s1.make (z := .int .u8 0) rfl (by omega) (Nat.le_refl _) (by unfold maxLen; omega) (by omega) fun b6 h7 s1 => ?_
  have ez : List.replicate ((110 - l) * 1) (Value.int .u8 0) = bcs (List.replicate (110 - l) 0) := by rw [bcs_replicate, Nat.mul_one]; rfl
  rw [ez] at s1
  simp only [Int.toNat_natCast]
  refine (plain_put (c := 110 - l) s1.up1 (bs_own s1.at) (by simp [numB_length]; omega)).mono fun v h9 ⟨hv, s1⟩ => ⟨hv, ?_⟩
  simp only [putS] at s1
  refine (u64_put s1 s (by simp [numB_length]; omega)).mono fun v h11 ⟨hv, s1⟩ => ⟨hv, ?_⟩
  simp only [putS] at s1
  refine (out_ok s1.at (by simp [numB_length]; omega)).mono fun v h13 ⟨p', l', c', hv, nw⟩ => ⟨nw.ext, p', l', c', 0, hv, p', l', c', rfl, ?_⟩
  have e : numB s 8 ++ (numB xs.length 2 ++ xs) ++ List.replicate (110 - l) 0 ++ numB s 8 = pageB s xs := by rw [pageB, hxl]
  have nw := nw.under s1.ext
  simp only [e] at nw
  exact nw
theorem decode_ok {xs : List UInt8} {p : Option Addr} {l c : Nat} (hx : Bs h p l xs) (hl : xs.length = 128) :
    CallsH Try.prog n_slot_decode #[.slice p l c] h fun v h' => ∃ (s : Nat) (p' : Option Addr) (l' c' : Nat) (t : Bool) (val : List UInt8), v = .tuple #[.int .u64 s, .slice p' l' c', .bool t] ∧ decB xs = (if t then some (s, val) else none) ∧ New h h' [own 1 p' l' c' (bcs val)] := by
  refine C_slot_decode p l c ?_
  unfold F_slot_decode
  have hxl := hx.1
  refine (rdr_ok hx (by omega)).mono fun v h1 ⟨b, hv, nw⟩ => ⟨nw.ext, _, hv, ?_⟩
  have s := nw.st
  have e1 : numR xs false 8 = (headB xs, xs.drop 8, false) := by rw [numR, if_pos ⟨rfl, by omega⟩]; rfl
  refine (rU64_ok s).mono fun v h4 ⟨hv, s⟩ => ⟨_, hv, ?_⟩
  rw [e1] at s ⊢
  dsimp only at s ⊢
  have hc := countB_lt xs
  have hlen8 : (xs.drop 8).length = 120 := by rw [List.length_drop]; omega
  refine (rString_ok s 110).mono fun v h7 ⟨p8, l9, c10, hv, s⟩ => ⟨p8, l9, c10, hv, ?_⟩
  by_cases hcb : countB xs ≤ 110
  · have e2 : strR (xs.drop 8) false 110 = (textB xs, (xs.drop 8).drop (2 + countB xs), false) := by
      rw [strR, if_pos ⟨rfl, by omega, by show ((countB xs : Nat) : Int) ≤ 110; omega, by show countB xs ≤ 8192; omega, by show countB xs + 2 ≤ _; omega⟩, List.drop_drop]
      rfl
    rw [e2] at s
    dsimp only at s
    refine (fails_ok s.at).mono fun v h12 ⟨hv, hh⟩ => ?_
    subst hh
    refine ⟨Ext.refl _, false, hv, br_no rfl ?_⟩
    have hl9 : l9 = countB xs := by
      have := s.up1.len.1
      rw [bcs_length, textB, List.length_take, List.length_drop] at this
      omega
    rw [wrap_i64 (by omega) (by omega)]
    refine (rPlain_ok s (110 - (l9 : Int))).mono fun v h15 ⟨p16, l17, c18, hv, s⟩ => ⟨p16, l17, c18, hv, ?_⟩
    have e3 : (takeR ((xs.drop 8).drop (2 + countB xs)) false (110 - (l9 : Int))).2 = (xs.drop 120, false) := by
      rw [takeR, if_pos ⟨rfl, by omega, by rw [List.length_drop, hlen8]; omega⟩, List.drop_drop, List.drop_drop]
      have : 8 + (2 + countB xs) + (110 - (l9 : Int)).toNat = 120 := by omega
      dsimp only
      rw [this]
    rw [e3] at s
    dsimp only at s
    have e4 : numR (xs.drop 120) false 8 = (tailB xs, [], false) := by
      have ed : (xs.drop 120).length = 8 := by rw [List.length_drop]; omega
      have e : (xs.drop 120).drop 8 = [] := List.drop_of_length_le (by omega)
      rw [numR, if_pos ⟨rfl, by omega⟩, List.take_of_length_le (by omega), e]
      rfl
    refine (rU64_ok s).mono fun v h20 ⟨hv, s⟩ => ⟨_, hv, ?_⟩
    rw [e4] at s ⊢
    dsimp only at s ⊢
    have bad : ∀ {h' : Heap}, ¬(tailB xs = headB xs ∧ headB xs ≠ 0) → St h h' [own 1 p8 l9 c10 (bcs (textB xs))] → ∃ (s : Nat) (p' : Option Addr) (l' c' : Nat) (t : Bool) (val : List UInt8), Value.tuple #[.int .u64 (headB xs), .slice p8 l9 c10, .bool false] = .tuple #[.int .u64 s, .slice p' l' c', .bool t] ∧ decB xs = (if t then some (s, val) else none) ∧ New h h' [own 1 p' l' c' (bcs val)] :=
      fun hb s => ⟨_, _, _, _, false, textB xs, rfl, by rw [decB, if_neg (fun hh => hb hh.2)]; rfl, s.new ⟨owns_own, trivial⟩⟩
    rw [br_beq]
    refine ⟨fun ht => ?_, fun ht => bad (fun hh => ht (by rw [hh.1])) s.drop.drop⟩
    rw [br_bne]
    refine ⟨fun hz => ?_, fun hz => bad (fun hh => hh.2 (by omega)) s.drop.drop⟩
    refine (done_ok s.at).mono fun v h23 ⟨hv, hh⟩ => ?_
    subst hh
    refine ⟨Ext.refl _, true, by rw [hv]; rfl, _, _, _, _, true, textB xs, rfl, ?_, s.drop.drop.new ⟨owns_own, trivial⟩⟩
    rw [decB, if_pos ⟨hcb, by omega, by omega⟩]
    rfl
  · have e2 : strR (xs.drop 8) false 110 = ([], xs.drop 8, true) := by
      rw [strR, if_neg]
      rintro ⟨_, _, h3, _⟩
      have : ((countB xs : Nat) : Int) ≤ 110 := h3
      omega
    rw [e2] at s
    refine (fails_ok s.at).mono fun v h12 ⟨hv, hh⟩ => ?_
    subst hh
    refine ⟨Ext.refl _, true, hv, br_yes rfl ⟨0, none, 0, 0, false, [], rfl, ?_, (s.drop.drop.nil 1).new ⟨owns_own, trivial⟩⟩⟩
    rw [decB, if_neg (fun hh => hcb hh.1)]
    rfl

/- ### Load and Save -/
def pickL (i : Nat) (acc : Nat × List UInt8) (b : List UInt8) : Nat × List UInt8 :=
  match decB b with
  | some (s, v) => if s % 2 = i ∧ acc.1 < s then (s, v) else acc
  | none => acc
def loadD (D : Dev) (at_ : Int) : (Nat × List UInt8) × Int :=
  if (readD D at_).2 ≠ 0 then ((0, []), (readD D at_).2) else if (readD D (at_ + 1)).2 ≠ 0 then ((0, []), (readD D (at_ + 1)).2)
  else (pickL 1 (pickL 0 (0, []) (readD D at_).1) (readD D (at_ + 1)).1, 0)
theorem readD_full {i : Int} (w : D.Wf n) (hr : (readD D i).2 = 0) : (readD D i).1.length = 128 := by
  unfold readD at hr ⊢
  split at hr
  · rename_i h
    rw [if_pos h]
    obtain ⟨hd, h0, h1⟩ := reach_in w h
    have hsl := w.seenLen
    have hlt : i.toNat < D.seen.length := by omega
    rw [List.getD_eq_getElem?_getD, List.getElem?_eq_getElem hlt]
    exact w.seenPages _ (List.getElem_mem hlt)
  · rename_i h
    exact absurd hr h
theorem load_nil (h : Heap) (at_ : Int) : CallsH Try.prog n_slot_Load #[.pointer none, .int .i64 at_] h fun v h' => v = .tuple #[.int .u64 0, .slice none 0 0, .int .i64 1] ∧ h' = h := C_slot_Load none at_ (br_yes rfl ⟨rfl, rfl⟩)
theorem save_nil (h : Heap) (at_ : Int) (p : Option Addr) (l c : Nat) : CallsH Try.prog n_slot_Save #[.pointer none, .int .i64 at_, .slice p l c] h fun v h' => v = .tuple #[.int .u64 0, .int .i64 1] ∧ h' = h := C_slot_Save none at_ p l c (br_yes rfl ⟨rfl, rfl⟩)
theorem load_ok (a : At h (Dv b D)) (w : D.Wf n) {at_ : Int} (h1 : -1000000 ≤ at_) (h2 : at_ ≤ 1000000) :
    CallsH Try.prog n_slot_Load #[ptr b, .int .i64 at_] h fun v h' => ∃ p l c, v = .tuple #[.int .u64 (loadD D at_).1.1, .slice p l c, .int .i64 (loadD D at_).2] ∧ New h h' [own 1 p l c (bcs (loadD D at_).1.2)] := by
  refine C_slot_Load (some (Addr.mk b 0 none)) at_ ?_
  unfold F_slot_Load
  refine br_no rfl ⟨fun st h' => ∃ (k : Nat) (acc : Nat × List UInt8), st.2.2 = k ∧ k ≤ 2 ∧ st.1 = acc.1 ∧ (k = 0 → acc = (0, [])) ∧ (k = 1 → (readD D at_).2 = 0 ∧ acc = pickL 0 (0, []) (readD D at_).1) ∧ (k = 2 → loadD D at_ = (acc, 0)) ∧
    St h h' [own 1 st.2.1.1 st.2.1.2.1 st.2.1.2.2 (bcs acc.2)], fun st _ => (2 - st.2.2).toNat, ⟨0, (0, []), rfl, by omega, rfl, fun _ => rfl, fun h => by omega, fun h => by omega, (St.start h).nil 1⟩, ?_⟩
  rintro ⟨ser, ⟨sp, sl, sc⟩, i⟩ h3 ⟨k, acc, rfl, hk, rfl, k0, k1, k2, s⟩
  dsimp only at *
  rw [br_decide]
  refine ⟨fun hlt => ?_, fun hge => ?_⟩
  · rw [wrap_i64 (by omega) (by omega)]
    refine (read_ok (a.ext s.ext) w (at_ + k)).mono fun v h5 ⟨p6, l7, c8, hv, nw⟩ => ⟨nw.ext, p6, l7, c8, _, hv, ?_⟩
    rw [br_bne]
    refine ⟨fun hne => ?_, fun heq => ?_⟩
    · have e : loadD D at_ = ((0, []), (readD D (at_ + k)).2) := by
        have : k = 0 ∨ k = 1 := by omega
        rcases this with rfl | rfl
        · rw [loadD, if_pos (by simpa using hne)]; simp
        · rw [loadD, if_neg (by simpa using (k1 rfl).1), if_pos (by simpa using hne)]; rfl
      rw [e]
      exact ⟨none, 0, 0, rfl, (((s.keep nw.ext).drop).nil 1).new ⟨owns_own, trivial⟩⟩
    have hfull := readD_full w heq
    have hb := bs_own nw.st.at
    refine (decode_ok hb hfull).mono fun v h11 ⟨n12, p13, l14, c15, t, val, hv, hdec, nw2⟩ => ⟨nw2.ext, n12, p13, l14, c15, t, hv, ?_⟩
    have e5 := s.ext.trans nw.ext
    have s := s.keep (nw.ext.trans nw2.ext)
    have hw1 : IntKind.wrap .i64 ((k : Int) + 1) = ((k + 1 : Nat) : Int) := by rw [wrap_i64 (by omega) (by omega)]; omega
    rw [hw1]
    have hw2 : IntKind.wrap .u64 (k : Int) = (k : Int) := by rw [wrap_u64]; omega
    rw [hw2]
    have fin : ∀ (acc' : Nat × List UInt8) (q : Option Addr) (ql qc : Nat), acc' = pickL k acc (readD D (at_ + k)).1 → St h h11 [own 1 q ql qc (bcs acc'.2)] →
        (∃ (k_1 : Nat) (acc : Nat × List UInt8), ((k + 1 : Nat) : Int) = k_1 ∧ k_1 ≤ 2 ∧ (acc'.1 : Int) = acc.1 ∧ (k_1 = 0 → acc = (0, [])) ∧ (k_1 = 1 → (readD D at_).2 = 0 ∧ acc = pickL 0 (0, []) (readD D at_).1) ∧ (k_1 = 2 → loadD D at_ = (acc, 0)) ∧ St h h11 [own 1 q ql qc (bcs acc.2)]) ∧
        (2 - ((k + 1 : Nat) : Int)).toNat < (2 - (k : Int)).toNat := by
      intro acc' q ql qc he s
      refine ⟨⟨k + 1, acc', rfl, by omega, rfl, fun h => by omega, fun h => ?_, fun h => ?_, s⟩, by omega⟩
      · have hk0 : k = 0 := by omega
        subst hk0
        simp only [Int.natCast_zero, Int.add_zero] at heq he
        rw [k0 rfl] at he
        exact ⟨by simpa using heq, by simpa using he⟩
      · have hk1 : k = 1 := by omega
        subst hk1
        rw [loadD, if_neg (by simpa using (k1 rfl).1), if_neg (by simpa using heq), he, (k1 rfl).2]
        rfl
    cases t
    · refine br_no rfl (fin acc sp sl sc ?_ s)
      rw [pickL, hdec]; rfl
    · have hdec' : decB (readD D (at_ + k)).1 = some (n12, val) := hdec
      have htm : Int.tmod (n12 : Int) 2 = ((n12 % 2 : Nat) : Int) := by rw [Int.tmod_eq_emod_of_nonneg (by omega)]; omega
      refine br_yes rfl ⟨by omega, ?_⟩
      rw [htm, br_beq]
      refine ⟨fun hp => ?_, fun hp => fin acc sp sl sc (by rw [pickL, hdec']; simp only; rw [if_neg (by omega)]) s⟩
      rw [br_decide]
      refine ⟨fun hgt => fin (n12, val) p13 l14 c15 (by rw [pickL, hdec']; simp only; rw [if_pos (by omega)]) ?_, fun hgt => fin acc sp sl sc (by rw [pickL, hdec']; simp only; rw [if_neg (by omega)]) s⟩
      exact (nw2.under e5).st
  · have hk2 : k = 2 := by omega
    rw [k2 hk2]
    exact ⟨sp, sl, sc, rfl, s.new ⟨owns_own, trivial⟩⟩
def saveD (D : Dev) (at_ : Int) (xs : List UInt8) : (Nat × Int) × Dev :=
  if 110 < xs.length then ((0, 3), D) else if (loadD D at_).2 ≠ 0 then ((0, (loadD D at_).2), D) else if (loadD D at_).1.1 + 1 = 18446744073709551616 then ((0, 5), D)
  else if (writeD D (at_ + (((loadD D at_).1.1 + 1) % 2 : Nat)) (pageB ((loadD D at_).1.1 + 1) xs)).1 ≠ 0 then ((0, (writeD D (at_ + (((loadD D at_).1.1 + 1) % 2 : Nat)) (pageB ((loadD D at_).1.1 + 1) xs)).1), (writeD D (at_ + (((loadD D at_).1.1 + 1) % 2 : Nat)) (pageB ((loadD D at_).1.1 + 1) xs)).2)
  else if (flushD (writeD D (at_ + (((loadD D at_).1.1 + 1) % 2 : Nat)) (pageB ((loadD D at_).1.1 + 1) xs)).2).1 ≠ 0 then ((0, (flushD (writeD D (at_ + (((loadD D at_).1.1 + 1) % 2 : Nat)) (pageB ((loadD D at_).1.1 + 1) xs)).2).1), (flushD (writeD D (at_ + (((loadD D at_).1.1 + 1) % 2 : Nat)) (pageB ((loadD D at_).1.1 + 1) xs)).2).2)
  else (((loadD D at_).1.1 + 1, 0), (flushD (writeD D (at_ + (((loadD D at_).1.1 + 1) % 2 : Nat)) (pageB ((loadD D at_).1.1 + 1) xs)).2).2)
theorem headB_lt (b : List UInt8) : headB b < 18446744073709551616 := by
  have := valB_le (bs := b.take 8) (n := 8) (by rw [List.length_take]; omega)
  simpa [headB] using this
theorem pickL_lt {i : Nat} {acc : Nat × List UInt8} {b : List UInt8} (h : acc.1 < 18446744073709551616) : (pickL i acc b).1 < 18446744073709551616 := by
  unfold pickL
  split
  · rename_i s v hd
    have hs : s = headB b := by
      unfold decB at hd
      split at hd
      · cases hd; rfl
      · cases hd
    split
    · show s < _
      rw [hs]
      exact headB_lt b
    · exact h
  · exact h
theorem loadD_lt (D : Dev) (at_ : Int) : (loadD D at_).1.1 < 18446744073709551616 := by
  unfold loadD
  split
  · simp
  · split
    · simp
    · exact pickL_lt (pickL_lt (by simp))
theorem save_ok {xs : List UInt8} {p : Option Addr} {l c : Nat} (hs : St h0 h (Dv b D :: rdo 1 p l (bcs xs) :: F)) (w : D.Wf n) (hq : D.queue.length ≤ 100000) {at_ : Int} (h1 : -1000000 ≤ at_) (h2 : at_ ≤ 1000000) :
    CallsH Try.prog n_slot_Save #[ptr b, .int .i64 at_, .slice p l c] h fun v h' => v = .tuple #[.int .u64 (saveD D at_ xs).1.1, .int .i64 (saveD D at_ xs).1.2] ∧ St h0 h' (Dv b (saveD D at_ xs).2 :: rdo 1 p l (bcs xs) :: F) := by
  refine C_slot_Save (some (Addr.mk b 0 none)) at_ p l c ?_
  unfold F_slot_Save
  have hxl := (bs_rdo hs.up1.at).1
  refine br_no rfl ?_
  rw [br_decide]
  refine ⟨fun hl => ?_, fun hl => ?_⟩
  · have e : saveD D at_ xs = ((0, 3), D) := by rw [saveD, if_pos (by omega)]
    rw [e]; exact ⟨rfl, hs⟩
  have hl' : ¬ 110 < xs.length := by omega
  have hlt := loadD_lt D at_
  refine (load_ok hs.at w h1 h2).mono fun v h1' ⟨p3, l4, c5, hv, nw⟩ => ⟨nw.ext, _, p3, l4, c5, _, hv, ?_⟩
  have s := hs.keep nw.ext
  rw [br_bne]
  refine ⟨fun hne => ?_, fun heq => ?_⟩
  · have e : saveD D at_ xs = ((0, (loadD D at_).2), D) := by rw [saveD, if_neg hl', if_pos hne]
    rw [e]; exact ⟨rfl, s⟩
  have heq' : ¬ (loadD D at_).2 ≠ 0 := by simpa using heq
  by_cases hfull : (loadD D at_).1.1 + 1 = 18446744073709551616
  · have hw : IntKind.wrap .u64 (((loadD D at_).1.1 : Int) + 1) = 0 := by rw [wrap_u64]; omega
    rw [hw]
    refine br_yes rfl ?_
    have e : saveD D at_ xs = ((0, 5), D) := by rw [saveD, if_neg hl', if_neg heq', if_pos hfull]
    rw [e]; exact ⟨rfl, s⟩
  have hw : IntKind.wrap .u64 (((loadD D at_).1.1 : Int) + 1) = (((loadD D at_).1.1 + 1 : Nat) : Int) := by rw [wrap_u64]; omega
  have hsv : saveD D at_ xs = if (writeD D (at_ + (((loadD D at_).1.1 + 1) % 2 : Nat)) (pageB ((loadD D at_).1.1 + 1) xs)).1 ≠ 0 then ((0, (writeD D (at_ + (((loadD D at_).1.1 + 1) % 2 : Nat)) (pageB ((loadD D at_).1.1 + 1) xs)).1), (writeD D (at_ + (((loadD D at_).1.1 + 1) % 2 : Nat)) (pageB ((loadD D at_).1.1 + 1) xs)).2)
    else if (flushD (writeD D (at_ + (((loadD D at_).1.1 + 1) % 2 : Nat)) (pageB ((loadD D at_).1.1 + 1) xs)).2).1 ≠ 0 then ((0, (flushD (writeD D (at_ + (((loadD D at_).1.1 + 1) % 2 : Nat)) (pageB ((loadD D at_).1.1 + 1) xs)).2).1), (flushD (writeD D (at_ + (((loadD D at_).1.1 + 1) % 2 : Nat)) (pageB ((loadD D at_).1.1 + 1) xs)).2).2)
    else (((loadD D at_).1.1 + 1, 0), (flushD (writeD D (at_ + (((loadD D at_).1.1 + 1) % 2 : Nat)) (pageB ((loadD D at_).1.1 + 1) xs)).2).2) := by rw [saveD, if_neg hl', if_neg heq', if_neg hfull]
  rw [hsv, hw]
  clear hsv hw heq heq'
  have hpos : 0 < (loadD D at_).1.1 + 1 := by omega
  have hlt2 : (loadD D at_).1.1 + 1 < 18446744073709551616 := by omega
  generalize (loadD D at_).1.1 + 1 = ser at *
  rw [br_beq]
  refine ⟨fun hz => by omega, fun hz => ?_⟩
  refine (encode_ok (bs_rdo s.up1.at) (by omega) ser).mono fun v h8 ⟨p9, l10, c11, hv, nw⟩ => ⟨nw.ext, p9, l10, c11, 0, hv, br_no rfl ⟨by omega, ?_⟩⟩
  have htm : IntKind.wrap .i64 (at_ + IntKind.wrap .i64 (Int.tmod (ser : Int) 2)) = at_ + ((ser % 2 : Nat) : Int) := by
    rw [Int.tmod_eq_emod_of_nonneg (by omega), wrap_i64 (n := (ser : Int) % 2) (by omega) (by omega), wrap_i64 (by omega) (by omega)]; omega
  rw [htm]
  have s := s.join nw
  simp only [List.cons_append, List.nil_append] at s
  have w2 := writeD_wf w (at_ + ((ser % 2 : Nat) : Int)) (pageB ser xs)
  have q2 := writeD_q (D := D) (at_ + ((ser % 2 : Nat) : Int)) (pageB ser xs)
  refine (write_ok s.ro.up1 w (at_ + ((ser % 2 : Nat) : Int)) (by omega)).mono fun v h14 ⟨hv, s⟩ => ⟨_, hv, ?_⟩
  generalize writeD D (at_ + ((ser % 2 : Nat) : Int)) (pageB ser xs) = WR at *
  rw [br_bne]
  refine ⟨fun hne => ?_, fun heq => ?_⟩
  · rw [if_pos hne]
    exact ⟨rfl, s.up1.drop⟩
  rw [if_neg (by simpa using heq)]
  refine (flush_ok s.up1.drop w2 (by omega)).mono fun v h17 ⟨hv, s⟩ => ⟨_, hv, ?_⟩
  rw [br_bne]
  refine ⟨fun hne => ?_, fun heq => ?_⟩
  · rw [if_pos hne]
    exact ⟨rfl, s⟩
  · rw [if_neg (by simpa using heq)]
    exact ⟨rfl, s⟩
end
end Go.Proofs.Ytbmhphnidfpclaa
/- Layer 8: a slot on a device that keeps its power; SlotNone, SlotCounts. -/
set_option linter.unusedVariables false
set_option maxRecDepth 100000
namespace Go.Proofs.Ytbmhphnidfpclaa
open Go Go.Vc Go.Proofs

theorem foldl_valB : ∀ (bs : List UInt8) (a : Nat), bs.foldl (fun x b => x * 256 + b.toNat) a = a * 256 ^ bs.length + valB bs
  | [], a => by simp [valB]
  | b :: bs, a => by
    have h1 := foldl_valB bs (a * 256 + b.toNat)
    have h2 := foldl_valB bs (0 * 256 + b.toNat)
    have h3 : valB (b :: bs) = (0 * 256 + b.toNat) * 256 ^ bs.length + valB bs := h2
    rw [List.foldl_cons, h1, h3, List.length_cons, Nat.pow_succ, Nat.add_mul, Nat.zero_mul, Nat.zero_add, Nat.mul_assoc, Nat.mul_comm 256 (256 ^ bs.length), Nat.add_assoc]
theorem valB_numB (x : Nat) : ∀ n, valB (numB x n) = x % 256 ^ n
  | 0 => by simp [numB, valB, Nat.mod_one]
  | n + 1 => by
    have h : valB (numB x (n + 1)) = (0 * 256 + (dg x n).toNat) * 256 ^ (numB x n).length + valB (numB x n) := foldl_valB (numB x n) _
    have hm : x % 256 ^ (n + 1) = x % 256 ^ n + 256 ^ n * (x / 256 ^ n % 256) := Nat.mod_pow_succ
    have hd : (dg x n).toNat = x / 256 ^ n % 256 := by rw [dg, UInt8.toNat_ofNat']
    rw [h, numB_length, valB_numB x n, Nat.zero_mul, Nat.zero_add, hd, hm, Nat.mul_comm, Nat.add_comm]
theorem take_num (x n : Nat) (rest : List UInt8) : (numB x n ++ rest).take n = numB x n := by rw [List.take_append_of_le_length (by rw [numB_length]; exact Nat.le_refl _), List.take_of_length_le (by rw [numB_length]; exact Nat.le_refl _)]
theorem drop_num (x n : Nat) (rest : List UInt8) : (numB x n ++ rest).drop n = rest := by rw [List.drop_append, List.drop_of_length_le (by rw [numB_length]; exact Nat.le_refl _), numB_length, Nat.sub_self]; rfl
theorem headB_page {s : Nat} {v : List UInt8} (hs : s < 18446744073709551616) : headB (pageB s v) = s := by
  unfold headB pageB
  simp only [List.append_assoc]
  rw [take_num, valB_numB, Nat.mod_eq_of_lt (by simpa using hs)]
theorem countB_page {s : Nat} {v : List UInt8} (hv : v.length ≤ 110) : countB (pageB s v) = v.length := by
  unfold countB pageB
  simp only [List.append_assoc]
  rw [drop_num, take_num, valB_numB, Nat.mod_eq_of_lt (by omega)]
theorem tailB_page {s : Nat} {v : List UInt8} (hs : s < 18446744073709551616) (hv : v.length ≤ 110) : tailB (pageB s v) = s := by
  unfold tailB pageB
  rw [List.drop_append, List.drop_of_length_le (by simp [numB_length]; omega), List.nil_append]
  have : 120 - (numB s 8 ++ (numB v.length 2 ++ v) ++ List.replicate (110 - v.length) 0).length = 0 := by simp [numB_length]; omega
  rw [this, List.drop_zero, valB_numB, Nat.mod_eq_of_lt (by simpa using hs)]
theorem textB_page {s : Nat} {v : List UInt8} (hv : v.length ≤ 110) : textB (pageB s v) = v := by
  unfold textB
  rw [countB_page hv]
  have e : pageB s v = (numB s 8 ++ numB v.length 2) ++ (v ++ (List.replicate (110 - v.length) 0 ++ numB s 8)) := by simp [pageB]
  rw [e, List.drop_append, List.drop_of_length_le (by simp [numB_length]), List.nil_append]
  have : 10 - (numB s 8 ++ numB v.length 2).length = 0 := by simp [numB_length]
  rw [this, List.drop_zero, List.take_append_of_le_length (Nat.le_refl _), List.take_length]
theorem decB_page {s : Nat} {v : List UInt8} (h0 : 0 < s) (hs : s < 18446744073709551616) (hv : v.length ≤ 110) : decB (pageB s v) = some (s, v) := by
  rw [decB, headB_page hs, tailB_page hs hv, countB_page hv, textB_page hv, if_pos ⟨hv, rfl, by omega⟩]
theorem decB_zero : decB (List.replicate 128 0) = none := by
  have : headB (List.replicate 128 0) = 0 := by decide
  rw [decB, if_neg (fun hh => hh.2.2 this)]

/-- A page of a device. -/
def pg (D : Dev) (i : Nat) : List UInt8 := D.seen.getD i []
/-- What a slot tells: the serial, the value. -/
def Slot (D : Dev) (a c : Nat) (v : List UInt8) : Prop :=
  (c = 0 → v = [] ∧ ∀ s x, decB (pg D a) = some (s, x) → s % 2 ≠ 0) ∧ (0 < c → decB (pg D (a + c % 2)) = some (c, v)) ∧
  ∀ s x, decB (pg D (a + (c + 1) % 2)) = some (s, x) → s < c ∨ s % 2 ≠ (c + 1) % 2
structure Up (D : Dev) (n : Nat) : Prop where
  wf : D.Wf n
  up : D.down = false
theorem Up.read {D : Dev} {n i : Nat} (u : Up D n) (hi : i < n) : readD D i = (pg D i, 0) := by rw [readD, if_pos (reach_zero u.wf u.up hi), Int.toNat_natCast]; rfl
theorem load_slot {D : Dev} {n a c : Nat} {v : List UInt8} (u : Up D n) (ha : a + 1 < n) (s : Slot D a c v) : loadD D a = ((c, v), 0) := by
  obtain ⟨s0, s1, s2⟩ := s
  have r0 := u.read (i := a) (by omega)
  have r1 := u.read (i := a + 1) (by omega)
  have ea : ((a : Int) + 1) = ((a + 1 : Nat) : Int) := by omega
  rw [loadD, ea, r0, r1, if_neg (by simp), if_neg (by simp)]
  dsimp only
  congr 1
  by_cases hc : c = 0
  · subst hc
    obtain ⟨rfl, s00⟩ := s0 rfl
    have e0 : pickL 0 (0, []) (pg D a) = (0, []) := by
      unfold pickL
      split
      · rename_i s x hd
        rw [if_neg (fun hh => s00 s x hd hh.1)]
      · rfl
    rw [e0]
    unfold pickL
    split
    · rename_i s x hd
      rw [if_neg]
      rintro ⟨h1, h2⟩
      rcases s2 s x hd with h | h
      · omega
      · exact h h1
    · rfl
  · have s1 := s1 (by omega)
    have hm : c % 2 = 0 ∨ c % 2 = 1 := by omega
    rcases hm with hm | hm
    · have hm' : (c + 1) % 2 = 1 := by omega
      rw [hm] at s1
      rw [hm'] at s2
      have e0 : pickL 0 (0, []) (pg D a) = (c, v) := by
        unfold pickL
        rw [show decB (pg D a) = some (c, v) from s1]
        simp only
        rw [if_pos ⟨hm, by omega⟩]
      rw [e0]
      unfold pickL
      split
      · rename_i s x hd
        rw [if_neg]
        rintro ⟨h1, h2⟩
        rcases s2 s x hd with h | h
        · simp only at h2; omega
        · exact h h1
      · rfl
    · have hm' : (c + 1) % 2 = 0 := by omega
      rw [hm] at s1
      rw [hm'] at s2
      have e0 : (pickL 0 (0, []) (pg D a)).1 < c := by
        unfold pickL
        split
        · rename_i s x hd
          split
          · rename_i hh
            rcases s2 s x hd with h | h
            · exact h
            · exact absurd hh.1 h
          · show 0 < c; omega
        · show 0 < c; omega
      generalize pickL 0 (0, []) (pg D a) = acc at *
      unfold pickL
      rw [s1]
      simp only
      rw [if_pos ⟨hm, e0⟩]
theorem pg_set {D D' : Dev} {i j : Nat} {x : List UInt8} (e : D'.seen = D.seen.set i x) (hi : i < D.seen.length) : pg D' j = if i = j then x else pg D j := by
  unfold pg
  rw [e, getD_set hi]
theorem save_slot {D : Dev} {n a c : Nat} {v xs : List UInt8} (u : Up D n) (hf : D.fuse = -1) (ha : a + 1 < n) (s : Slot D a c v) (hc : c + 1 < 18446744073709551616) (hx : xs.length ≤ 110) :
    ∃ D', saveD D a xs = ((c + 1, 0), D') ∧ Up D' n ∧ D'.fuse = -1 ∧ D'.queue = [] ∧ D'.seen = D.seen.set (a + (c + 1) % 2) (pageB (c + 1) xs) ∧ Slot D' a (c + 1) xs := by
  have hl := load_slot u ha s
  have ho : opD D = D := opD_neg (by omega)
  have hi : a + (c + 1) % 2 < n := by omega
  have ea : ((a : Int) + (((c + 1) % 2 : Nat) : Int)) = ((a + (c + 1) % 2 : Nat) : Int) := by omega
  have hw : writeD D ((a + (c + 1) % 2 : Nat) : Int) (pageB (c + 1) xs) = (0, { D with queue := D.queue ++ [(a + (c + 1) % 2, pageB (c + 1) xs)] }) := by
    rw [writeD_zero u.wf u.up hi (pageB_length hx) (by rw [ho]; exact u.up), ho]
  have ww := writeD_wf u.wf ((a + (c + 1) % 2 : Nat) : Int) (pageB (c + 1) xs)
  rw [hw] at ww
  have ho2 : opD { D with queue := D.queue ++ [(a + (c + 1) % 2, pageB (c + 1) xs)] } = { D with queue := D.queue ++ [(a + (c + 1) % 2, pageB (c + 1) xs)] } := opD_neg (by show D.fuse < 0; omega)
  have hfl := flushD_zero (D := { D with queue := D.queue ++ [(a + (c + 1) % 2, pageB (c + 1) xs)] }) u.up (by rw [ho2]; exact u.up)
  rw [ho2] at hfl
  have wf := flushD_wf ww
  rw [hfl] at wf
  have hseen : ({ D with queue := D.queue ++ [(a + (c + 1) % 2, pageB (c + 1) xs)] } : Dev).seen = D.seen.set (a + (c + 1) % 2) (pageB (c + 1) xs) := applyQ_snoc _ _ _
  have hpg := fun j => pg_set (D := D) (D' := { D with lasts := ({ D with queue := D.queue ++ [(a + (c + 1) % 2, pageB (c + 1) xs)] } : Dev).seen, queue := [] }) (i := a + (c + 1) % 2) (j := j) (x := pageB (c + 1) xs) hseen (by rw [u.wf.seenLen]; exact hi)
  refine ⟨{ D with lasts := ({ D with queue := D.queue ++ [(a + (c + 1) % 2, pageB (c + 1) xs)] } : Dev).seen, queue := [] }, ?_, ⟨wf, u.up⟩, hf, rfl, hseen, fun h => by omega, fun _ => ?_, fun s' x hd => ?_⟩
  · rw [saveD, hl, if_neg (by omega), if_neg (by simp)]
    dsimp only
    rw [if_neg (by omega), ea, hw]
    dsimp only
    rw [if_neg (by simp), hfl]
    dsimp only
    rw [if_neg (by simp)]
  · rw [hpg, if_pos rfl]
    exact decB_page (by omega) hc hx
  · rw [hpg, if_neg (by omega)] at hd
    have e2 : a + (c + 1 + 1) % 2 = a + c % 2 := by omega
    rw [e2] at hd
    obtain ⟨s0, s1, s2⟩ := s
    by_cases hc0 : c = 0
    · subst hc0
      exact .inr (by have := (s0 rfl).2 s' x hd; omega)
    · rw [s1 (by omega)] at hd
      cases hd
      exact .inl (by omega)
theorem newD_seen (n : Nat) : (newD n).seen = List.replicate n (List.replicate 128 0) := rfl
theorem newD_pg {n i : Nat} (hi : i < n) : pg (newD n) i = List.replicate 128 0 := by rw [pg, newD_seen, List.getD_eq_getElem?_getD, List.getElem?_replicate, if_pos hi]; rfl
theorem newD_up {n : Nat} (hn : n ≤ 4096) : Up (newD n) n := ⟨newD_wf hn, rfl⟩
theorem newD_slot {n a : Nat} (ha : a + 1 < n) : Slot (newD n) a 0 [] := ⟨fun _ => ⟨rfl, fun s x hd => by rw [newD_pg (by omega), decB_zero] at hd; cases hd⟩, fun h => by omega, fun s x hd => by rw [newD_pg (by omega), decB_zero] at hd; cases hd⟩
end Go.Proofs.Ytbmhphnidfpclaa
