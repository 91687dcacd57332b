/- Layer 18: the decoder's proofs. -/
import Derived.Test.YthlmiijlhiiccaaGreatdc
set_option linter.unusedVariables false
set_option linter.unusedSimpArgs false
set_option maxRecDepth 100000
namespace Go.Proofs.YthlmiijlhiiccaaGreat
open Go Go.Vc Go.Proofs Go.Vc.Keys
section
variable {h0 h : Heap} {F : List HP} {rb xb : Nat} {bs : Bytes} {f : Bool}
def prC (c : Value) (en : Int) (k v : Bytes) (p : Pf) (x y : Bytes) : List Value := c :: .int .i64 en :: (bcs k ++ (bcs v ++ (pfC p ++ (bcs x ++ bcs y))))
theorem prC_len {c : Value} {en : Int} {k v : Bytes} {p : Pf} {x y : Bytes} (hk : k.length = 32) (hv : v.length = 32) (hp : PfOk p) (hx : x.length = 32) (hy : y.length = 32) : (prC c en k v p x y).length = 163 := by
  simp [prC, bcs_length, hk, hv, hx, hy, pfC_len hp]
theorem prC_ones {c : Value} {en : Int} {k v : Bytes} {p : Pf} {x y : Bytes} (hc : c.oneCell' = true) : ones (prC c en k v p x y) :=
  ones_cons hc (ones_cons rfl (ones_app (one_bcs _) (ones_app (one_bcs _) (ones_app (ones_pfC _) (ones_app (one_bcs _) (one_bcs _))))))
theorem prR_mk {en : Int} {k v x y : Bytes} {p : Pf} {c : Value} {xs : List Stp} (hk : k.length = 32) (hv : v.length = 32) (hp : PfOk p) (hx : x.length = 32) (hy : y.length = 32) (hn : I64 en) (hz : LsR 65 StpR h c xs) : PrR h (prC c en k v p x y) ⟨xs, en, k, v, p, x, y⟩ := by
  have l2 : (bcs k).length = 32 := by rw [bcs_length, hk]
  have l3 : (bcs v).length = 32 := by rw [bcs_length, hv]
  have l4 := pfC_len hp
  have l5 : (bcs x).length = 32 := by rw [bcs_length, hx]
  have l6 : (bcs y).length = 32 := by rw [bcs_length, hy]
  have hl := prC_len (c := c) (en := en) hk hv hp hx hy
  generalize hcs : prC c en k v p x y = cs at *
  have d0 : cs.drop 0 = [c] ++ (.int .i64 en :: (bcs k ++ (bcs v ++ (pfC p ++ (bcs x ++ bcs y))))) := by rw [← hcs]; rfl
  have d1 := dn d0 rfl (show _ = [Value.int .i64 en] ++ (bcs k ++ (bcs v ++ (pfC p ++ (bcs x ++ bcs y)))) from rfl)
  have d2 := dn d1 rfl (show _ = bcs k ++ (bcs v ++ (pfC p ++ (bcs x ++ bcs y))) from rfl)
  have d3 := dn d2 l2 (show _ = bcs v ++ (pfC p ++ (bcs x ++ bcs y)) from rfl)
  have d4 := dn d3 l3 (show _ = pfC p ++ (bcs x ++ bcs y) from rfl)
  have d5 := dn d4 l4 (show _ = bcs x ++ bcs y from rfl)
  have d6 := dn d5 l5 (show bcs y = bcs y ++ [] by rw [List.append_nil])
  exact ⟨hl, ⟨c, gt d0, hz⟩, gt d1, tk d2 l2, tk d3 l3, tk d4 l4, tk d5 l5, tk d6 l6, ⟨hk, hv, hp, hx, hy⟩, hn⟩
theorem pf0_ok : PfOk zeroPf := ⟨rfl, by unfold I64; show _ ≤ (0 : Int) ∧ (0 : Int) ≤ _; omega⟩
theorem takes_proof : Takes rb xb n_message_decoder_proof 163 decPr PrR := by
  intro h0 h F bs f hs
  refine C_message_decoder_proof (some (Addr.mk xb 0 none)) ?_
  unfold F_message_decoder_proof
  refine hs.newBlk fun b0 h1 _ st _ => ?_
  have hD : decPr bs f = andD (decL decS) decEnd (fun _ p => p) bs f := rfl
  simp only [andD] at hD
  rw [hD]
  simp only [deref_some, add_mk, Nat.zero_add]
  refine (takesL_step st.dn2).mono fun v h3 ⟨p, l, c, hv, st⟩ => ⟨p, l, c, hv, ?_⟩
  generalize decL decS bs f = r1 at *
  refine st.newBlk fun b7 h8 _ st _ => ?_
  refine st.storeAll rfl rfl (one_list (prC_ones (c := .slice p l c) (k := zeros) (v := zeros) (p := zeroPf) (x := zeros) (y := zeros) rfl)) fun h9 st => ?_
  have st : St h0 h9 (pts b7 0 false ([.slice p l c] ++ (.int .i64 0 :: (bcs zeros ++ (bcs zeros ++ (pfC zeroPf ++ (bcs zeros ++ bcs zeros)))))) :: kn (fun h => LsR 65 StpR h (.slice p l c) r1.1) :: W rb r1.2.1 r1.2.2 :: pts xb 0 false [ptr rb] :: pts b0 0 false (prC (.slice none 0 0) 0 zeros zeros zeroPf zeros zeros) :: F) := st
  refine ⟨_, st.up3.cell0 (i := 0) rfl, (rU8_ok st.up2).mono fun v h13 ⟨hv, st⟩ => ⟨_, hv, ?_⟩⟩
  have hn := numR_lt r1.2.1 r1.2.2 1
  have hE : decEnd r1.1 r1.2.1 r1.2.2 = if ((numR r1.2.1 r1.2.2 1).1 : Int) = 0 then ({ zeroPrf with steps := r1.1, en := (numR r1.2.1 r1.2.2 1).1 }, (numR r1.2.1 r1.2.2 1).2)
      else if ((numR r1.2.1 r1.2.2 1).1 : Int) = 1 then andD decH (fun _ => decH) (fun k v => { zeroPrf with steps := r1.1, en := (numR r1.2.1 r1.2.2 1).1, key := k, value := v }) (numR r1.2.1 r1.2.2 1).2.1 (numR r1.2.1 r1.2.2 1).2.2
      else if ((numR r1.2.1 r1.2.2 1).1 : Int) = 2 then andD decP (fun _ => andD decH (fun _ => decH) Prod.mk) (fun p lr => { zeroPrf with steps := r1.1, en := (numR r1.2.1 r1.2.2 1).1, p := p, left := lr.1, right := lr.2 }) (numR r1.2.1 r1.2.2 1).2.1 (numR r1.2.1 r1.2.2 1).2.2
      else ({ zeroPrf with steps := r1.1, en := (numR r1.2.1 r1.2.2 1).1 }, (numR r1.2.1 r1.2.2 1).2.1, true) := rfl
  simp only [andD] at hE
  rw [hE]
  generalize hr0 : numR r1.2.1 r1.2.2 1 = r0 at *
  refine mid1 (i := 1) st.up1 rfl rfl fun h15 st => ?_
  simp only [List.cons_append, List.nil_append] at st
  have hI : I64 (r0.1 : Int) := by unfold I64; omega
  refine ⟨_, st.cell0 (i := 1) rfl, ?_⟩
  have st : St h0 h15 (pts b7 0 false (prC (.slice p l c) r0.1 zeros zeros zeroPf zeros zeros) :: W rb r0.2.1 r0.2.2 :: pts xb 0 false [ptr rb] :: kn (fun h => LsR 65 StpR h (.slice p l c) r1.1) :: pts b0 0 false (prC (.slice none 0 0) 0 zeros zeros zeroPf zeros zeros) :: F) := st.up3.up2.up2
  -- the answer goes through a block
  have fin : ∀ {h' : Heap} {k v x y : Bytes} {q : Pf} {bs' : Bytes} {f' : Bool}, k.length = 32 → v.length = 32 → PfOk q → x.length = 32 → y.length = 32 →
      St h0 h' (pts b7 0 false (prC (.slice p l c) r0.1 k v q x y) :: W rb bs' f' :: pts xb 0 false [ptr rb] :: kn (fun h => LsR 65 StpR h (.slice p l c) r1.1) :: pts b0 0 false (prC (.slice none 0 0) 0 zeros zeros zeroPf zeros zeros) :: F) →
      ∃ cs17 : Array Value, row h' (Addr.mk b7 0 none) 163 = some cs17 ∧ storeP (some 163) h' (Addr.mk b0 0 none) (.agg cs17) fun h18 => ∃ cs19 : Array Value, row h18 (Addr.mk b0 0 none) 163 = some cs19 ∧
        ∃ cs : List Value, Value.agg cs19 = .agg cs.toArray ∧ cs.length = 163 ∧ ones cs ∧ St h0 h18 (kn (fun h => PrR h cs ⟨r1.1, r0.1, k, v, q, x, y⟩) :: W rb bs' f' :: pts xb 0 false [ptr rb] :: F) := by
    intro h' k v x y q bs' f' hk hv hq hx hy st
    have hl := prC_len (c := .slice p l c) (en := r0.1) hk hv hq hx hy
    have ho := prC_ones (c := .slice p l c) (en := r0.1) (k := k) (v := v) (p := q) (x := x) (y := y) rfl
    refine ⟨_, st.row0 hl, ret18 st.up4 rfl hl ho fun h27 st => ⟨_, rfl, hl, ho, ?_⟩⟩
    exact (st.drop.up2).knMono fun h ht => prR_mk hk hv hq hx hy hI ht
  rw [br_beq]
  refine ⟨fun e0 => ?_, fun e0 => ?_⟩
  · rw [if_pos e0]
    exact fin rfl rfl pf0_ok rfl rfl st
  rw [if_neg e0, br_beq]
  refine ⟨fun e1 => ?_, fun e1 => ?_⟩
  · rw [if_pos e1]
    have hx := decH_len r0.2.1 r0.2.2
    refine (dhash_ok st.dn2).mono fun v h21 ⟨hv, st⟩ => ⟨_, by simp [bcs_length, hx], hv, ?_⟩
    generalize decH r0.2.1 r0.2.2 = r3 at *
    refine mid (i := 2) (A := [.slice p l c, .int .i64 r0.1]) (B := bcs zeros) (C := bcs zeros ++ (pfC zeroPf ++ (bcs zeros ++ bcs zeros))) st.up2 rfl rfl (by rw [bcs_length, hx]) (one_bcs _) fun h23 st => ?_
    have hy := decH_len r3.2.1 r3.2.2
    refine (dhash_ok st.dn2).mono fun v h25 ⟨hv, st⟩ => ⟨_, by simp [bcs_length, hy], hv, ?_⟩
    generalize decH r3.2.1 r3.2.2 = r4 at *
    refine mid (i := 34) (A := [.slice p l c, .int .i64 r0.1] ++ bcs r3.1) (B := bcs zeros) (C := pfC zeroPf ++ (bcs zeros ++ bcs zeros)) st.up2 (by simp [bcs_length, hx]) rfl (by rw [bcs_length, hy]) (one_bcs _) fun h27 st => ?_
    simp only [List.append_assoc, List.cons_append, List.nil_append] at st
    exact fin hx hy pf0_ok rfl rfl st
  rw [if_neg e1, br_beq]
  refine ⟨fun e2 => ?_, fun e2 => ?_⟩
  · rw [if_pos e2]
    have hp := decP_ok r0.2.1 r0.2.2
    refine (dprefix_ok st.dn2).mono fun v h32 ⟨hv, st⟩ => ⟨_, by simpa using pfC_len hp, hv, ?_⟩
    generalize decP r0.2.1 r0.2.2 = r2 at *
    refine mid (i := 66) (A := [.slice p l c, .int .i64 r0.1] ++ (bcs zeros ++ bcs zeros)) (B := pfC zeroPf) (C := bcs zeros ++ bcs zeros) (by simpa only [prC, List.append_assoc, List.cons_append, List.nil_append] using st.up2) rfl rfl (pfC_len hp) (ones_pfC _) fun h34 st => ?_
    simp only [List.append_assoc, List.cons_append, List.nil_append] at st
    have hx := decH_len r2.2.1 r2.2.2
    refine (dhash_ok st.dn2).mono fun v h36 ⟨hv, st⟩ => ⟨_, by simp [bcs_length, hx], hv, ?_⟩
    generalize decH r2.2.1 r2.2.2 = r3 at *
    refine mid (i := 99) (A := [.slice p l c, .int .i64 r0.1] ++ (bcs zeros ++ (bcs zeros ++ pfC r2.1))) (B := bcs zeros) (C := bcs zeros) (by simpa only [List.append_assoc, List.cons_append, List.nil_append] using st.up2) (by simp [bcs_length, pfC_len hp]; rfl) rfl (by rw [bcs_length, hx]) (one_bcs _) fun h38 st => ?_
    simp only [List.append_assoc, List.cons_append, List.nil_append] at st
    have hy := decH_len r3.2.1 r3.2.2
    refine (dhash_ok st.dn2).mono fun v h40 ⟨hv, st⟩ => ⟨_, by simp [bcs_length, hy], hv, ?_⟩
    generalize decH r3.2.1 r3.2.2 = r4 at *
    refine mid (i := 131) (A := [.slice p l c, .int .i64 r0.1] ++ (bcs zeros ++ (bcs zeros ++ (pfC r2.1 ++ bcs r3.1)))) (B := bcs zeros) (C := []) (by simpa only [List.append_assoc, List.cons_append, List.nil_append, List.append_nil] using st.up2) (by simp [bcs_length, pfC_len hp, hx]; rfl) rfl (by rw [bcs_length, hy]) (one_bcs _) fun h42 st => ?_
    simp only [List.append_assoc, List.cons_append, List.nil_append, List.append_nil] at st
    exact fin rfl rfl hp hx hy st
  rw [if_neg e2]
  refine (dfail_ok st.dn2).mono fun v h47 ⟨hv, st⟩ => ⟨hv, ?_⟩
  exact fin rfl rfl pf0_ok rfl rfl st.up2
end
end Go.Proofs.YthlmiijlhiiccaaGreat
