/- Layer 18: the decoder, its small parts. -/
import Derived.Test.YthlmiijlhiiccaaGreatmj
import Derived.Test.YthlmiijlhiiccaaGreatL1
import Derived.Test.YthlmiijlhiiccaaGreatL3
import Derived.Test.YthlmiijlhiiccaaGreatSk
import Derived.Test.YthlmiijlhiiccaaGreatFn
set_option linter.unusedVariables false
set_option linter.unusedSimpArgs false
set_option maxRecDepth 100000
namespace Go.Proofs.YthlmiijlhiiccaaGreat
open Go Go.Vc Go.Proofs Go.Vc.Keys
theorem zeros_len : zeros.length = 32 := rfl
theorem numR_le (bs : Bytes) (f : Bool) (n : Nat) : (numR bs f n).1 < 256 ^ n := numR_lt bs f n
theorem decI_range (k : Nat) (hi : Int) (h0 : 0 ≤ hi) (bs : Bytes) (f : Bool) : 0 ≤ (decI k hi bs f).1 ∧ (decI k hi bs f).1 ≤ hi := by
  unfold decI
  split
  · exact ⟨Int.le_refl _, h0⟩
  · exact ⟨by simp, by simp only; omega⟩
theorem decN_range (bs : Bytes) (f : Bool) : I64 (decN bs f).1 := by
  have := decI_range 4 2147483647 (by omega) bs f
  unfold I64 decN
  omega
theorem decE_range (bs : Bytes) (f : Bool) : I64 (decE bs f).1 := by
  have := decI_range 1 13 (by omega) bs f
  unfold I64 decE
  omega
theorem decH_len (bs : Bytes) (f : Bool) : (decH bs f).1.length = 32 := by
  unfold decH
  simp only
  split
  · assumption
  · rfl
theorem takeR_len (bs : Bytes) (f : Bool) : (takeR bs f 32).1.length = 32 ∨ (takeR bs f 32).1 = [] := by
  unfold takeR
  split
  · left
    simp only [List.length_take]
    have : (32 : Int).toNat = 32 := rfl
    omega
  · right; rfl
theorem lay_mid {A B C l : List Value} {i : Nat} (ha : A.length = i) (hb : B.length = l.length) : lay (A ++ (B ++ C)) i l = A ++ (l ++ C) := by
  unfold lay
  rw [List.take_left' ha, ← List.drop_drop, List.drop_left' ha, List.drop_left' hb]
section
variable {h0 h : Heap} {F : List HP} {rb xb : Nat} {bs : Bytes} {f : Bool}
/-- A part of a block is written. -/
theorem mid {b i n : Nat} {A B C l : List Value} {K : Heap → Prop} (hs : St h0 h (pts b 0 false (A ++ (B ++ C)) :: F)) (ha : A.length = i) (hb : B.length = n) (hl : l.length = n) (ho : ones l) (hk : ∀ h', St h0 h' (pts b 0 false (A ++ (l ++ C)) :: F) → K h') : Vc.storeP (some n) h (Addr.mk b i none) (.agg l.toArray) K := by
  have hc : (Value.agg l.toArray).cells = l.toArray := rfl
  have := hs.storeRow (i := i) (n := n) (v := .agg l.toArray) (K := K) (by rw [hc]; simpa using hl) (by simp; omega) (by rw [hc]; exact one_list ho) fun h' s => hk h' (by
    rw [hc] at s
    rw [lay_mid ha (by simpa using by omega)] at s
    exact s)
  rwa [Nat.zero_add] at this
theorem mid1 {b i : Nat} {A C : List Value} {u v : Value} {K : Heap → Prop} (hs : St h0 h (pts b 0 false (A ++ (u :: C)) :: F)) (ha : A.length = i) (ho : v.oneCell' = true) (hk : ∀ h', St h0 h' (pts b 0 false (A ++ (v :: C)) :: F) → K h') : Vc.storeP none h (Addr.mk b i none) v K := by
  refine hs.store0 (by simp; omega) ho fun h' s => hk h' ?_
  rw [List.set_append_right _ _ (by omega), ha, Nat.sub_self] at s
  exact s
theorem dfail_ok (hs : St h0 h (W rb bs f :: pts xb 0 false [ptr rb] :: F)) : CallsH Tryz.prog n_message_decoder_fail #[ptr xb] h fun v h' => v = .tuple #[] ∧ St h0 h' (W rb bs true :: pts xb 0 false [ptr rb] :: F) := by
  refine C_message_decoder_fail (some (Addr.mk xb 0 none)) ?_
  unfold F_message_decoder_fail
  simp only [deref_some, add_mk, Nat.zero_add]
  refine ⟨_, hs.up1.cell0 (i := 0) rfl, (rPlain_ok hs (-1)).mono fun v h3 ⟨p, l, c, hv, st⟩ => ⟨p, l, c, hv, by trivial, ?_⟩⟩
  have e : takeR bs f (-1) = ([], bs, true) := by unfold takeR; rw [if_neg (by omega)]
  rw [e] at st
  exact st.up1.drop
theorem dnum_ok (hs : St h0 h (W rb bs f :: pts xb 0 false [ptr rb] :: F)) : CallsH Tryz.prog n_message_decoder_number #[ptr xb] h fun v h' => v = .int .i64 (decN bs f).1 ∧ St h0 h' (W rb (decN bs f).2.1 (decN bs f).2.2 :: pts xb 0 false [ptr rb] :: F) := by
  refine C_message_decoder_number (some (Addr.mk xb 0 none)) ?_
  unfold F_message_decoder_number
  simp only [deref_some, add_mk, Nat.zero_add]
  refine ⟨_, hs.up1.cell0 (i := 0) rfl, (rU32_ok hs).mono fun v h3 ⟨hv, st⟩ => ⟨_, hv, ?_⟩⟩
  have hlt := numR_lt bs f 4
  rw [br_decide]
  refine ⟨fun hge => (dfail_ok st).mono fun v h6 ⟨hv, st⟩ => ⟨hv, ?_⟩, fun hge => ?_⟩
  · unfold decN decI
    rw [if_pos (by omega)]
    exact ⟨rfl, st⟩
  · unfold decN decI
    rw [if_neg (by omega), wrap_i64 (by omega) (by omega)]
    exact ⟨rfl, st⟩
theorem derr_ok (hs : St h0 h (W rb bs f :: pts xb 0 false [ptr rb] :: F)) : CallsH Tryz.prog n_message_decoder_error #[ptr xb] h fun v h' => v = .int .i64 (decE bs f).1 ∧ St h0 h' (W rb (decE bs f).2.1 (decE bs f).2.2 :: pts xb 0 false [ptr rb] :: F) := by
  refine C_message_decoder_error (some (Addr.mk xb 0 none)) ?_
  unfold F_message_decoder_error
  simp only [deref_some, add_mk, Nat.zero_add]
  refine ⟨_, hs.up1.cell0 (i := 0) rfl, (rU8_ok hs).mono fun v h3 ⟨hv, st⟩ => ⟨_, hv, ?_⟩⟩
  rw [br_decide]
  refine ⟨fun hge => (dfail_ok st).mono fun v h6 ⟨hv, st⟩ => ⟨hv, ?_⟩, fun hge => ?_⟩
  · unfold decE decI
    rw [if_pos (by omega)]
    exact ⟨rfl, st⟩
  · unfold decE decI
    rw [if_neg (by omega)]
    exact ⟨rfl, st⟩
theorem dtext_ok (hs : St h0 h (W rb bs f :: pts xb 0 false [ptr rb] :: F)) : CallsH Tryz.prog n_message_decoder_text #[ptr xb] h fun v h' => ∃ p l c, v = .slice p l c ∧ St h0 h' (kn (fun h => TxtR h (.slice p l c) (decT bs f).1) :: W rb (decT bs f).2.1 (decT bs f).2.2 :: pts xb 0 false [ptr rb] :: F) := by
  refine C_message_decoder_text (some (Addr.mk xb 0 none)) ?_
  unfold F_message_decoder_text
  simp only [deref_some, add_mk, Nat.zero_add]
  refine ⟨_, hs.up1.cell0 (i := 0) rfl, (rString_ok hs 64).mono fun v h3 ⟨p, l, c, hv, st⟩ => ⟨p, l, c, hv, p, l, c, rfl, ?_⟩⟩
  have hl := St.blen (bs := (strR bs f 64).1) st.up1
  exact st.up1.knOwn.knMono fun h' ⟨h1, h2, r⟩ => ⟨p, l, c, rfl, h1, hl.1, r⟩
/-- What is answered goes through a block. -/
theorem ret18 {G : List HP} {b n : Nat} {vs l : List Value} {K : Array Value → Heap → Prop} (hs : St h0 h (pts b 0 false vs :: G)) (hn : vs.length = n) (hl : l.length = n) (ho : ones l) (hk : ∀ h', St h0 h' G → K l.toArray h') :
    Vc.storeP (some n) h (Addr.mk b 0 none) (.agg l.toArray) fun h' => ∃ cs', Vc.row h' (Addr.mk b 0 none) n = some cs' ∧ K cs' h' :=
  hs.storeAll hn (by simpa using hl) (one_list ho) fun h' s => ⟨l.toArray, s.row0 hl, hk h' s.drop⟩
theorem dhash_ok (hs : St h0 h (W rb bs f :: pts xb 0 false [ptr rb] :: F)) : CallsH Tryz.prog n_message_decoder_hash #[ptr xb] h fun v h' => v = .agg (bcs (decH bs f).1).toArray ∧ St h0 h' (W rb (decH bs f).2.1 (decH bs f).2.2 :: pts xb 0 false [ptr rb] :: F) := by
  refine C_message_decoder_hash (some (Addr.mk xb 0 none)) ?_
  unfold F_message_decoder_hash
  refine hs.newBlk fun b0 h1 _ st _ => st.newBlk fun b2 h3 _ st _ => ?_
  have st : St h0 h3 (pts b2 0 false (bcs zeros) :: pts b0 0 false (bcs zeros) :: W rb bs f :: pts xb 0 false [ptr rb] :: F) := st
  refine sliceP_to (p := some (Addr.mk b2 0 none)) (c := 32) (n := 32) (by omega) ?_
  simp only [deref_some, add_mk, Nat.zero_add]
  refine ⟨_, st.up3.cell0 (i := 0) rfl, (rPlain_ok st.up2 32).mono fun v h10 ⟨p, l, c, hv, st⟩ => ⟨p, l, c, hv, ?_⟩⟩
  have hl := St.blen (bs := (takeR bs f 32).1) st.up1
  have hr := rd_own st.up1.at
  have hlen : (bcs (takeR bs f 32).1).length = (takeR bs f 32).1.length := bcs_length _
  have hcase := takeR_len bs f
  have hmin : Nat.min l 32 = l := by
    rcases hcase with e | e
    · have : l = 32 := by omega
      subst this; rfl
    · rw [e] at hl
      have : l = 0 := by simpa using hl.1.symm
      subst this; rfl
  have hx : (decH bs f).1.length = 32 := decH_len bs f
  refine St.ptsCopy (k := l) st.up2 (by rw [hmin, Nat.mul_one]) (by show 0 + l ≤ (bcs zeros).length; rcases hcase with e | e <;> rw [e] at hl <;> simp [bcs_length, zeros_len] at hl ⊢ <;> omega) (by have := hr.2; rwa [Nat.mul_one] at this) (by rw [hlen]; exact hl.1) (one_bcs _) fun h15 st => ?_
  have hlay : lay (bcs zeros) 0 (bcs (takeR bs f 32).1) = bcs (decH bs f).1 := by
    unfold decH
    rcases hcase with e | e
    · simp only [e, if_pos]
      exact lay_all (by rw [bcs_length, bcs_length, e, zeros_len])
    · simp only [e]
      rw [if_neg (by simp)]
      exact lay_nil _ _
  rw [hlay] at st
  refine ⟨_, st.row0 (by rw [bcs_length, hx]), ?_⟩
  refine ret18 st.up3 (by rw [bcs_length]; rfl) (by rw [bcs_length, hx]) (one_bcs _) fun h17 st => ⟨rfl, ?_⟩
  exact (st.drop.up1.drop : St h0 h17 (W rb (takeR bs f 32).2.1 (takeR bs f 32).2.2 :: pts xb 0 false [ptr rb] :: F))
theorem pfC_len {p : Pf} (hp : PfOk p) : (pfC p).length = 33 := by
  have := hp.1
  simp [pfC, bcs_length]; omega
theorem ones_pfC (p : Pf) : ones (pfC p) := fun v hv => by
  rcases List.mem_cons.1 hv with rfl | h
  · rfl
  · exact one_bcs _ v h
theorem decP_ok (bs : Bytes) (f : Bool) : PfOk (decP bs f).1 := by
  unfold decP
  split
  · refine ⟨decH_len _ _, ?_⟩
    have := numR_lt bs f 2
    unfold I64
    simp only; omega
  · exact ⟨rfl, by unfold I64; show _ ≤ (0 : Int) ∧ (0 : Int) ≤ _; omega⟩
theorem dprefix_ok (hs : St h0 h (W rb bs f :: pts xb 0 false [ptr rb] :: F)) : CallsH Tryz.prog n_message_decoder_prefix #[ptr xb] h fun v h' => v = .agg (pfC (decP bs f).1).toArray ∧ St h0 h' (W rb (decP bs f).2.1 (decP bs f).2.2 :: pts xb 0 false [ptr rb] :: F) := by
  refine C_message_decoder_prefix (some (Addr.mk xb 0 none)) ?_
  unfold F_message_decoder_prefix
  refine hs.newBlk fun b0 h1 _ st _ => ?_
  have st : St h0 h1 (pts b0 0 false (pfC zeroPf) :: W rb bs f :: pts xb 0 false [ptr rb] :: F) := st
  simp only [deref_some, add_mk, Nat.zero_add]
  refine ⟨_, st.up2.cell0 (i := 0) rfl, (rU16_ok st.dn2).mono fun v h5 ⟨hv, st⟩ => ⟨_, hv, ?_⟩⟩
  have hn := numR_lt bs f 2
  generalize hN : (numR bs f 2).1 = n at *
  refine st.newBlk fun b7 h8 _ st _ => ?_
  refine st.storeAll (by simp) (by simp) (one_list fun v hv => by simp at hv; rcases hv with rfl | rfl <;> rfl) fun h9 st => ?_
  have st : St h0 h9 (pts b7 0 false ([.int .i64 (n : Int)] ++ (bcs zeros ++ [])) :: W rb (numR bs f 2).2.1 (numR bs f 2).2.2 :: pts xb 0 false [ptr rb] :: pts b0 0 false (pfC zeroPf) :: F) := st
  have hx : (decH (numR bs f 2).2.1 (numR bs f 2).2.2).1.length = 32 := decH_len _ _
  refine (dhash_ok st.dn2).mono fun v h11 ⟨hv, st⟩ => ⟨_, by simp [bcs_length, hx], hv, ?_⟩
  refine mid (i := 1) st.up2 rfl rfl (by rw [bcs_length, hx]) (one_bcs _) fun h13 st => ?_
  have hD : decP bs f = if Formed n (decH (numR bs f 2).2.1 (numR bs f 2).2.2).1 then (⟨n, (decH (numR bs f 2).2.1 (numR bs f 2).2.2).1⟩, (decH (numR bs f 2).2.1 (numR bs f 2).2.2).2)
      else (zeroPf, (decH (numR bs f 2).2.1 (numR bs f 2).2.2).2.1, true) := by unfold decP; rw [hN]
  rw [hD]
  generalize decH (numR bs f 2).2.1 (numR bs f 2).2.2 = r at *
  have hp : PfOk ⟨n, r.1⟩ := ⟨hx, by unfold I64; show _ ≤ (n : Int) ∧ (n : Int) ≤ _; omega⟩
  have st : St h0 h13 (pts b7 0 false (pfC ⟨n, r.1⟩) :: W rb r.2.1 r.2.2 :: pts xb 0 false [ptr rb] :: pts b0 0 false (pfC zeroPf) :: F) := by
    rw [List.append_nil] at st
    exact st
  refine ⟨_, st.row0 (pfC_len hp), (formed_ok hp.2 hx).mono fun v h16 ⟨hv, e⟩ => ⟨e, _, hv, ?_⟩⟩
  have st := st.keep e
  by_cases hf : Formed n r.1
  · rw [if_pos hf, decide_eq_true hf]
    refine br_no rfl ⟨_, st.row0 (pfC_len hp), ?_⟩
    refine ret18 st.up3 rfl (pfC_len hp) (ones_pfC _) fun h17 st => ⟨rfl, st.drop⟩
  · rw [if_neg hf, decide_eq_false hf]
    refine br_yes rfl ((dfail_ok st.dn2).mono fun v h19 ⟨hv, st⟩ => ⟨hv, ?_⟩)
    exact ret18 (l := pfC zeroPf) st.up3 rfl rfl (ones_pfC _) fun h17 st => ⟨rfl, st.up2.drop⟩
end
end Go.Proofs.YthlmiijlhiiccaaGreat
