/- Layer 18: the decoder's parts: steps, versions, rows, news, lists. -/
import Derived.Test.YthlmiijlhiiccaaGreatdb
set_option linter.unusedVariables false
set_option linter.unusedSimpArgs false
set_option maxRecDepth 100000
namespace Go.Proofs.YthlmiijlhiiccaaGreat
open Go Go.Vc Go.Proofs Go.Vc.Keys
theorem ones_cons {v : Value} {l : List Value} (h1 : v.oneCell' = true) (h2 : ones l) : ones (v :: l) := fun x hx => by
  rcases List.mem_cons.1 hx with rfl | h
  · exact h1
  · exact h2 x h
theorem ones_app {l m : List Value} (h1 : ones l) (h2 : ones m) : ones (l ++ m) := fun x hx => by
  rcases List.mem_append.1 hx with h | h
  · exact h1 x h
  · exact h2 x h
theorem ones_nil : ones [] := fun x hx => by simp at hx
section
variable {h0 h : Heap} {F : List HP} {rb xb : Nat} {bs : Bytes} {f : Bool}
theorem vrR_mk {n m : Int} {x y z : Bytes} {c : Value} (hx : x.length = 32) (hy : y.length = 32) (hn : I64 n) (hm : I64 m) (hz : TxtR h c z) : VrR h (.int .i64 n :: .int .i64 m :: (bcs x ++ (bcs y ++ [c]))) ⟨n, m, x, y, z⟩ := by
  have l2 : (bcs x).length = 32 := by rw [bcs_length, hx]
  have l3 : (bcs y).length = 32 := by rw [bcs_length, hy]
  generalize hcs : Value.int .i64 n :: .int .i64 m :: (bcs x ++ (bcs y ++ [c])) = cs
  have d0 : cs.drop 0 = [.int .i64 n] ++ (.int .i64 m :: (bcs x ++ (bcs y ++ [c]))) := by rw [← hcs]; rfl
  have d1 := dn d0 rfl (show _ = [Value.int .i64 m] ++ (bcs x ++ (bcs y ++ [c])) from rfl)
  have d2 := dn d1 rfl (show _ = bcs x ++ (bcs y ++ [c]) from rfl)
  have d3 := dn d2 l2 (show _ = bcs y ++ [c] from rfl)
  have d4 := dn d3 l3 (show _ = [c] ++ [] from rfl)
  exact ⟨by rw [← hcs]; simp [l2, l3], gt d0, gt d1, tk d2 l2, tk d3 l3, ⟨c, gt d4, hz⟩, ⟨hx, hy⟩, hn, hm⟩
theorem takes_step : Takes rb xb n_message_decoder_step 65 decS StpR := by
  intro h0 h F bs f hs
  refine C_message_decoder_step (some (Addr.mk xb 0 none)) ?_
  unfold F_message_decoder_step
  refine hs.newBlk fun b0 h1 _ st _ => ?_
  have hp := decP_ok bs f
  refine (dprefix_ok st.dn2).mono fun v h3 ⟨hv, st⟩ => ⟨_, by simpa using pfC_len hp, hv, ?_⟩
  have hx : (decH (decP bs f).2.1 (decP bs f).2.2).1.length = 32 := decH_len _ _
  refine st.newBlk fun b5 h6 _ st _ => ?_
  refine st.storeAll rfl (by simpa using pfC_len hp) (one_list (ones_pfC _)) fun h7 st => ?_
  have st : St h0 h7 (pts b5 0 false (pfC (decP bs f).1) :: W rb (decP bs f).2.1 (decP bs f).2.2 :: pts xb 0 false [ptr rb] :: pts b0 0 false (pfC zeroPf ++ bcs zeros) :: F) := st
  have fin : ∀ {h10 : Heap}, St h0 h10 (W rb (decH (decP bs f).2.1 (decP bs f).2.2).2.1 (decH (decP bs f).2.1 (decP bs f).2.2).2.2 :: pts xb 0 false [ptr rb] :: pts b5 0 false (pfC (decP bs f).1) :: pts b0 0 false (pfC zeroPf ++ bcs zeros) :: F) →
      storeP (some 65) h10 (Addr.mk b0 0 none) (.agg (pfC (decP bs f).1 ++ (bcs (decH (decP bs f).2.1 (decP bs f).2.2).1 ++ [])).toArray) fun h12 => ∃ cs13 : Array Value, row h12 (Addr.mk b0 0 none) 65 = some cs13 ∧
        ∃ cs : List Value, Value.agg cs13 = .agg cs.toArray ∧ cs.length = 65 ∧ ones cs ∧ St h0 h12 (kn (fun h => StpR h cs (decS bs f).1) :: W rb (decS bs f).2.1 (decS bs f).2.2 :: pts xb 0 false [ptr rb] :: F) := by
    intro h10 st
    refine ret18 st.up3 rfl (by simp [pfC_len hp, bcs_length, hx]) (ones_app (ones_pfC _) (ones_app (one_bcs _) ones_nil)) fun h17 st => ⟨_, rfl, by simp [pfC_len hp, bcs_length, hx], ones_app (ones_pfC _) (ones_app (one_bcs _) ones_nil), ?_⟩
    exact st.up2.drop.knAdd fun h => ⟨hp, hx, by rw [List.append_nil]; rfl⟩
  refine ⟨⟨_, st.row0 (pfC_len hp), (dhash_ok st.dn2).mono fun v h10 ⟨hv, st⟩ => ⟨_, by simp [bcs_length, hx], hv, by simpa using pfC_len hp, by simp [bcs_length, hx], fin st⟩⟩,
    (dhash_ok st.dn2).mono fun v h10 ⟨hv, st⟩ => ⟨_, by simp [bcs_length, hx], hv, _, st.up2.row0 (pfC_len hp), by simpa using pfC_len hp, by simp [bcs_length, hx], fin st⟩⟩
theorem takes_version : Takes rb xb n_message_decoder_version 67 decV VrR := by
  intro h0 h F bs f hs
  refine C_message_decoder_version (some (Addr.mk xb 0 none)) ?_
  unfold F_message_decoder_version
  refine hs.newBlk fun b0 h1 _ st _ => ?_
  have hD : decV bs f = andD decN (fun _ => andD decN (fun _ => andD decH (fun _ => andD decH (fun _ => decT) Prod.mk) Prod.mk) Prod.mk) (fun a r => ⟨a, r.1, r.2.1, r.2.2.1, r.2.2.2⟩) bs f := rfl
  simp only [andD] at hD
  rw [hD]
  have hn := decN_range bs f
  refine (dnum_ok st.dn2).mono fun v h3 ⟨hv, st⟩ => ⟨_, hv, ?_⟩
  generalize decN bs f = r1 at *
  refine st.newBlk fun b5 h6 _ st _ => ?_
  refine st.storeAll rfl rfl (one_list (ones_cons rfl (ones_cons rfl (ones_app (l := bcs (zeros ++ zeros)) (one_bcs _) (ones_cons rfl ones_nil))))) fun h7 st => ?_
  have st : St h0 h7 (pts b5 0 false ([.int .i64 r1.1] ++ (.int .i64 0 :: (bcs zeros ++ (bcs zeros ++ [.slice none 0 0])))) :: W rb r1.2.1 r1.2.2 :: pts xb 0 false [ptr rb] :: pts b0 0 false (.int .i64 0 :: .int .i64 0 :: (bcs zeros ++ (bcs zeros ++ [.slice none 0 0]))) :: F) := st
  have hm := decN_range r1.2.1 r1.2.2
  refine (dnum_ok st.dn2).mono fun v h9 ⟨hv, st⟩ => ⟨_, hv, ?_⟩
  generalize decN r1.2.1 r1.2.2 = r2 at *
  refine mid1 (i := 1) st.up2 rfl rfl fun h11 st => ?_
  have hx := decH_len r2.2.1 r2.2.2
  refine (dhash_ok st.dn2).mono fun v h13 ⟨hv, st⟩ => ⟨_, by simp [bcs_length, hx], hv, ?_⟩
  generalize decH r2.2.1 r2.2.2 = r3 at *
  refine mid (i := 2) (A := [.int .i64 r1.1, .int .i64 r2.1]) (B := bcs zeros) st.up2 rfl rfl (by rw [bcs_length, hx]) (one_bcs _) fun h15 st => ?_
  have hy := decH_len r3.2.1 r3.2.2
  refine (dhash_ok st.dn2).mono fun v h17 ⟨hv, st⟩ => ⟨_, by simp [bcs_length, hy], hv, ?_⟩
  generalize decH r3.2.1 r3.2.2 = r4 at *
  refine mid (i := 34) (A := [.int .i64 r1.1, .int .i64 r2.1] ++ bcs r3.1) (B := bcs zeros) st.up2 (by simp [bcs_length, hx]) rfl (by rw [bcs_length, hy]) (one_bcs _) fun h19 st => ?_
  refine (dtext_ok st.dn2).mono fun v h21 ⟨p, l, c, hv, st⟩ => ⟨p, l, c, hv, ?_⟩
  generalize decT r4.2.1 r4.2.2 = r5 at *
  have st := st.up3
  simp only [List.append_assoc, List.cons_append, List.nil_append] at st
  refine mid1 (i := 66) (A := [.int .i64 r1.1, .int .i64 r2.1] ++ (bcs r3.1 ++ bcs r4.1)) (u := .slice none 0 0) (C := []) (by simpa only [List.append_assoc, List.cons_append, List.nil_append] using st) (by simp [bcs_length, hx, hy]) rfl fun h25 st => ?_
  simp only [List.append_assoc, List.cons_append, List.nil_append] at st
  have hl : (Value.int .i64 r1.1 :: .int .i64 r2.1 :: (bcs r3.1 ++ (bcs r4.1 ++ [.slice p l c]))).length = 67 := by simp [bcs_length, hx, hy]
  have ho : ones (Value.int .i64 r1.1 :: .int .i64 r2.1 :: (bcs r3.1 ++ (bcs r4.1 ++ [.slice p l c]))) := ones_cons rfl (ones_cons rfl (ones_app (one_bcs _) (ones_app (one_bcs _) (ones_cons rfl ones_nil))))
  refine ⟨_, st.row0 hl, ?_⟩
  refine ret18 st.up4 rfl hl ho fun h27 st => ⟨_, rfl, hl, ho, ?_⟩
  exact st.drop.knMono fun h ht => vrR_mk hx hy hn hm ht
theorem takes_news : Takes rb xb n_message_decoder_news 68 decW NwR := by
  intro h0 h F bs f hs
  refine C_message_decoder_news (some (Addr.mk xb 0 none)) ?_
  unfold F_message_decoder_news
  refine hs.newBlk fun b0 h1 _ st _ => ?_
  have hD : decW bs f = andD decT (fun _ => decV) Nw.mk bs f := rfl
  simp only [andD] at hD
  rw [hD]
  refine (dtext_ok st.dn2).mono fun v h3 ⟨p, l, c, hv, st⟩ => ⟨p, l, c, hv, ?_⟩
  generalize decT bs f = r1 at *
  refine (takes_version st.dn2).mono fun v h8 ⟨cs, hv, hl, ho, st⟩ => ⟨_, by simpa using hl, hv, by simpa using hl, ?_⟩
  generalize decV r1.2.1 r1.2.2 = r2 at *
  have hl' : (Value.slice p l c :: (cs ++ [])).length = 68 := by simp [hl]
  have ho' : ones (Value.slice p l c :: (cs ++ [])) := ones_cons rfl (ones_app ho ones_nil)
  refine ret18 st.up4 rfl hl' ho' fun h10 st => ⟨_, rfl, hl', ho', ?_⟩
  exact (st.up3.knBoth).knMono fun h ⟨h1, h2⟩ => ⟨_, _, by rw [List.append_nil], h1, h2⟩
theorem takes_row : Takes rb xb n_message_decoder_row 162 decR RwR := by
  intro h0 h F bs f hs
  refine C_message_decoder_row (some (Addr.mk xb 0 none)) ?_
  unfold F_message_decoder_row
  refine hs.newBlk fun b0 h1 _ st _ => ?_
  simp only [deref_some, add_mk, Nat.zero_add]
  have hD : decR bs f = if (flagR bs f).1 then andD decH (fun _ => decH) (fun k v => { zeroRw with leaf := true, key := k, value := v }) (flagR bs f).2.1 (flagR bs f).2.2
      else andD decP (fun _ => andD decH (fun _ => decH) Prod.mk) (fun p lr => { zeroRw with p := p, left := lr.1, right := lr.2 }) (flagR bs f).2.1 (flagR bs f).2.2 := rfl
  simp only [andD] at hD
  rw [hD]
  refine ⟨_, st.up2.cell0 (i := 0) rfl, (rFlag_ok st.dn2).mono fun v h5 ⟨hv, st⟩ => ⟨_, hv, ?_⟩⟩
  generalize flagR bs f = r0 at *
  refine st.newBlk fun b7 h8 _ st _ => ?_
  refine st.storeAll rfl rfl (one_list (ones_cons rfl (ones_app (l := bcs (zeros ++ zeros)) (one_bcs _) (ones_cons rfl (one_bcs (zeros ++ (zeros ++ zeros))))))) fun h9 st => ?_
  have st : St h0 h9 (pts b7 0 false (.bool r0.1 :: (bcs zeros ++ (bcs zeros ++ (pfC zeroPf ++ (bcs zeros ++ bcs zeros))))) :: W rb r0.2.1 r0.2.2 :: pts xb 0 false [ptr rb] :: pts b0 0 false (.bool false :: (bcs zeros ++ (bcs zeros ++ (pfC zeroPf ++ (bcs zeros ++ bcs zeros))))) :: F) := st
  refine ⟨_, st.cell0 (i := 0) rfl, ?_⟩
  cases ht : r0.1 with
  | true =>
    rw [ht] at st
    rw [if_pos rfl]
    refine br_yes rfl ?_
    have hx := decH_len r0.2.1 r0.2.2
    refine (dhash_ok st.dn2).mono fun v h12 ⟨hv, st⟩ => ⟨_, by simp [bcs_length, hx], hv, ?_⟩
    generalize decH r0.2.1 r0.2.2 = r3 at *
    refine mid (i := 1) (A := [.bool true]) (B := bcs zeros) st.up2 rfl rfl (by rw [bcs_length, hx]) (one_bcs _) fun h15 st => ?_
    have hy := decH_len r3.2.1 r3.2.2
    refine (dhash_ok st.dn2).mono fun v h17 ⟨hv, st⟩ => ⟨_, by simp [bcs_length, hy], hv, ?_⟩
    generalize decH r3.2.1 r3.2.2 = r4 at *
    refine mid (i := 33) (A := [.bool true] ++ bcs r3.1) (B := bcs zeros) st.up2 (by simp [bcs_length, hx]) rfl (by rw [bcs_length, hy]) (one_bcs _) fun h19 st => ?_
    simp only [List.append_assoc, List.cons_append, List.nil_append] at st
    have hl : (Value.bool true :: (bcs r3.1 ++ (bcs r4.1 ++ (pfC zeroPf ++ (bcs zeros ++ bcs zeros))))).length = 162 := by simp [bcs_length, hx, hy]; rfl
    have ho : ones (Value.bool true :: (bcs r3.1 ++ (bcs r4.1 ++ (pfC zeroPf ++ (bcs zeros ++ bcs zeros))))) := ones_cons rfl (ones_app (one_bcs _) (ones_app (one_bcs _) (ones_app (ones_pfC _) (ones_app (one_bcs _) (one_bcs _)))))
    refine ⟨_, st.row0 hl, ?_⟩
    refine ret18 st.up3 rfl hl ho fun h27 st => ⟨_, rfl, hl, ho, ?_⟩
    exact st.drop.knAdd fun h => ⟨hx, hy, ⟨rfl, by unfold I64; show _ ≤ (0 : Int) ∧ (0 : Int) ≤ _; omega⟩, rfl, rfl, rfl⟩
  | false =>
    rw [ht] at st
    rw [if_neg (by simp)]
    refine br_no rfl ?_
    have hp := decP_ok r0.2.1 r0.2.2
    refine (dprefix_ok st.dn2).mono fun v h12 ⟨hv, st⟩ => ⟨_, by simpa using pfC_len hp, hv, ?_⟩
    generalize decP r0.2.1 r0.2.2 = r2 at *
    refine mid (i := 65) (A := [.bool false] ++ (bcs zeros ++ bcs zeros)) (B := pfC zeroPf) (C := bcs zeros ++ bcs zeros) (by simpa only [List.append_assoc, List.cons_append, List.nil_append] using st.up2) rfl rfl (pfC_len hp) (ones_pfC _) fun h15 st => ?_
    simp only [List.append_assoc, List.cons_append, List.nil_append] at st
    have hx := decH_len r2.2.1 r2.2.2
    refine (dhash_ok st.dn2).mono fun v h12 ⟨hv, st⟩ => ⟨_, by simp [bcs_length, hx], hv, ?_⟩
    generalize decH r2.2.1 r2.2.2 = r3 at *
    refine mid (i := 98) (A := [.bool false] ++ (bcs zeros ++ (bcs zeros ++ pfC r2.1))) (B := bcs zeros) (C := bcs zeros) (by simpa only [List.append_assoc, List.cons_append, List.nil_append] using st.up2) (by simp [bcs_length, pfC_len hp]; rfl) rfl (by rw [bcs_length, hx]) (one_bcs _) fun h15 st => ?_
    simp only [List.append_assoc, List.cons_append, List.nil_append] at st
    have hy := decH_len r3.2.1 r3.2.2
    refine (dhash_ok st.dn2).mono fun v h17 ⟨hv, st⟩ => ⟨_, by simp [bcs_length, hy], hv, ?_⟩
    generalize decH r3.2.1 r3.2.2 = r4 at *
    refine mid (i := 130) (A := [.bool false] ++ (bcs zeros ++ (bcs zeros ++ (pfC r2.1 ++ bcs r3.1)))) (B := bcs zeros) (C := []) (by simpa only [List.append_assoc, List.cons_append, List.nil_append, List.append_nil] using st.up2) (by simp [bcs_length, pfC_len hp, hx]; rfl) rfl (by rw [bcs_length, hy]) (one_bcs _) fun h19 st => ?_
    simp only [List.append_assoc, List.cons_append, List.nil_append, List.append_nil] at st
    have hl : (Value.bool false :: (bcs zeros ++ (bcs zeros ++ (pfC r2.1 ++ (bcs r3.1 ++ bcs r4.1))))).length = 162 := by simp [bcs_length, hx, hy, pfC_len hp]; rfl
    have ho : ones (Value.bool false :: (bcs zeros ++ (bcs zeros ++ (pfC r2.1 ++ (bcs r3.1 ++ bcs r4.1))))) := ones_cons rfl (ones_app (one_bcs _) (ones_app (one_bcs _) (ones_app (ones_pfC _) (ones_app (one_bcs _) (one_bcs _)))))
    refine ⟨_, st.row0 hl, ?_⟩
    refine ret18 st.up3 rfl hl ho fun h27 st => ⟨_, rfl, hl, ho, ?_⟩
    exact st.drop.knAdd fun h => ⟨rfl, rfl, hp, hx, hy, rfl⟩
/-- A list is taken. -/
def TakesL (rb xb fl fd : Nat) (sz : Nat) {α : Type} (D : Dec α) (R : Rel α) : Prop := ∀ {h0 h : Heap} {F : List HP} {bs : Bytes} {f : Bool}, St h0 h (W rb bs f :: pts xb 0 false [ptr rb] :: F) →
  CallsH Tryz.prog fl #[ptr xb, .func (.func fd) #[ptr xb] #[]] h fun v h' => ∃ p l c, v = .slice p l c ∧ St h0 h' (kn (fun h => LsR sz R h (.slice p l c) (decL D bs f).1) :: W rb (decL D bs f).2.1 (decL D bs f).2.2 :: pts xb 0 false [ptr rb] :: F)
theorem takesL_hash : TakesL rb xb n_message_items_api_Hash n_message_decoder_hash 32 decH HashR := by
  intro h0 h F bs f hs
  refine C_message_items_api_Hash (some (Addr.mk xb 0 none)) ?_
  unfold F_message_items_api_Hash
  simp only [deref_some, add_mk, Nat.zero_add]
  refine ⟨_, hs.up1.cell0 (i := 0) rfl, (rCount_ok hs 4096).mono fun v h3 ⟨hv, st⟩ => ⟨_, hv, ?_⟩⟩
  exact items_ok takes_hash rfl (by omega) (by omega) _ (countR_le _ _) st
theorem takesL_step : TakesL rb xb n_message_items_proof_Step n_message_decoder_step 65 decS StpR := by
  intro h0 h F bs f hs
  refine C_message_items_proof_Step (some (Addr.mk xb 0 none)) ?_
  unfold F_message_items_proof_Step
  simp only [deref_some, add_mk, Nat.zero_add]
  refine ⟨_, hs.up1.cell0 (i := 0) rfl, (rCount_ok hs 4096).mono fun v h3 ⟨hv, st⟩ => ⟨_, hv, ?_⟩⟩
  exact items_ok takes_step rfl (by omega) (by omega) _ (countR_le _ _) st
theorem takesL_version : TakesL rb xb n_message_items_chain_Version n_message_decoder_version 67 decV VrR := by
  intro h0 h F bs f hs
  refine C_message_items_chain_Version (some (Addr.mk xb 0 none)) ?_
  unfold F_message_items_chain_Version
  simp only [deref_some, add_mk, Nat.zero_add]
  refine ⟨_, hs.up1.cell0 (i := 0) rfl, (rCount_ok hs 4096).mono fun v h3 ⟨hv, st⟩ => ⟨_, hv, ?_⟩⟩
  exact items_ok takes_version rfl (by omega) (by omega) _ (countR_le _ _) st
theorem takesL_row : TakesL rb xb n_message_items_delta_Row n_message_decoder_row 162 decR RwR := by
  intro h0 h F bs f hs
  refine C_message_items_delta_Row (some (Addr.mk xb 0 none)) ?_
  unfold F_message_items_delta_Row
  simp only [deref_some, add_mk, Nat.zero_add]
  refine ⟨_, hs.up1.cell0 (i := 0) rfl, (rCount_ok hs 4096).mono fun v h3 ⟨hv, st⟩ => ⟨_, hv, ?_⟩⟩
  exact items_ok takes_row rfl (by omega) (by omega) _ (countR_le _ _) st
theorem takesL_news : TakesL rb xb n_message_items_message_News n_message_decoder_news 68 decW NwR := by
  intro h0 h F bs f hs
  refine C_message_items_message_News (some (Addr.mk xb 0 none)) ?_
  unfold F_message_items_message_News
  simp only [deref_some, add_mk, Nat.zero_add]
  refine ⟨_, hs.up1.cell0 (i := 0) rfl, (rCount_ok hs 4096).mono fun v h3 ⟨hv, st⟩ => ⟨_, hv, ?_⟩⟩
  exact items_ok takes_news rfl (by omega) (by omega) _ (countR_le _ _) st
theorem takes_trail : Takes rb xb n_message_decoder_trail 2 decTr TrR := by
  intro h0 h F bs f hs
  refine C_message_decoder_trail (some (Addr.mk xb 0 none)) ?_
  unfold F_message_decoder_trail
  refine hs.newBlk fun b0 h1 _ st _ => ?_
  have hD : decTr bs f = andD (decL decH) (fun _ => decL decH) Trl.mk bs f := rfl
  simp only [andD] at hD
  rw [hD]
  refine (takesL_hash st.dn2).mono fun v h3 ⟨p, l, c, hv, st⟩ => ⟨p, l, c, hv, ?_⟩
  generalize decL decH bs f = r1 at *
  refine (takesL_hash st.dn2).mono fun v h8 ⟨p', l', c', hv, st⟩ => ⟨p', l', c', hv, ?_⟩
  generalize decL decH r1.2.1 r1.2.2 = r2 at *
  have ho : ones [Value.slice p l c, .slice p' l' c'] := ones_cons rfl (ones_cons rfl ones_nil)
  refine ret18 (l := [.slice p l c, .slice p' l' c']) st.up4 rfl rfl ho fun h10 st => ⟨_, rfl, rfl, ho, ?_⟩
  exact (st.up3.knBoth).knMono fun h ⟨h1, h2⟩ => ⟨_, _, rfl, h1, h2⟩
end
end Go.Proofs.YthlmiijlhiiccaaGreat
