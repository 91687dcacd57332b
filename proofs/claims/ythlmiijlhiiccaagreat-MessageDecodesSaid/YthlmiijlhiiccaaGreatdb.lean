/- Layer 18: the decoder's lists and what stands in them. -/
import Derived.Test.YthlmiijlhiiccaaGreatda
set_option linter.unusedVariables false
set_option linter.unusedSimpArgs false
set_option maxRecDepth 100000
namespace Go.Proofs.YthlmiijlhiiccaaGreat
open Go Go.Vc Go.Proofs Go.Vc.Keys
theorem countR_le (bs : Bytes) (f : Bool) : (countR bs f 4096).1 ≤ 4096 := by
  unfold countR
  split
  · simp only; omega
  · simp
section
variable {h0 h : Heap} {F : List HP} {rb xb : Nat} {bs : Bytes} {f : Bool}
/-- A function that takes one value of some cells. -/
def Takes (rb xb : Nat) (fd : Nat) (sz : Nat) {α : Type} (D : Dec α) (R : Rel α) : Prop := ∀ {h0 h : Heap} {F : List HP} {bs : Bytes} {f : Bool}, St h0 h (W rb bs f :: pts xb 0 false [ptr rb] :: F) →
  CallsH Tryz.prog fd #[ptr xb] h fun v h' => ∃ cs : List Value, v = .agg cs.toArray ∧ cs.length = sz ∧ ones cs ∧ St h0 h' (kn (fun h => R h cs (D bs f).1) :: W rb (D bs f).2.1 (D bs f).2.2 :: pts xb 0 false [ptr rb] :: F)
theorem takes_hash : Takes rb xb n_message_decoder_hash 32 decH HashR := fun st => (dhash_ok st).mono fun v h' ⟨hv, st⟩ =>
  ⟨_, hv, by rw [bcs_length, decH_len], one_bcs _, st.knAdd fun _ => ⟨decH_len _ _, rfl⟩⟩
theorem rows_flat {rows : List (List Value)} {cs : List Value} : rows.flatten ++ cs = (rows ++ [cs]).flatten := by simp
theorem LsR.none {α : Type} {sz : Nat} {R : Rel α} {h : Heap} : LsR sz R h (.slice none 0 0) [] :=
  ⟨_, 0, 0, [], rfl, Nat.le_refl _, rfl, rfl, ⟨by simp, by rw [Nat.zero_mul]; rfl⟩, fun i h1 => by simp at h1⟩
def Rows {α : Type} (sz : Nat) (R : Rel α) (rows : List (List Value)) (xs : List α) (h : Heap) : Prop := ∀ i (h1 : i < rows.length) (h2 : i < xs.length), rows[i].length = sz ∧ ones rows[i] ∧ R h rows[i] xs[i]
theorem Rows.snoc {α : Type} {sz : Nat} {R : Rel α} {rows : List (List Value)} {xs : List α} {cs : List Value} {x : α} {h : Heap} (hl : rows.length = xs.length) (r : Rows sz R rows xs h) (h1 : cs.length = sz) (h2 : ones cs) (h3 : R h cs x) : Rows sz R (rows ++ [cs]) (xs ++ [x]) h := fun i a b => by
  by_cases hi : i < rows.length
  · rw [List.getElem_append_left hi, List.getElem_append_left (by omega)]
    exact r i hi (by omega)
  · have : i = rows.length := by simp at a; omega
    subst this
    rw [List.getElem_append_right (Nat.le_refl _), List.getElem_append_right (by omega)]
    simp only [Nat.sub_self, List.getElem_cons_zero, hl]
    exact ⟨h1, h2, h3⟩
theorem items_ok {α : Type} {sz tid bytes fd : Nat} {zero : Array Value} {D : Dec α} {R : Rel α} (hd : Takes rb xb fd sz D R) (hz : zero.size = sz) (h0s : 0 < sz) (hb : bytes ≤ 1000000000) (n : Nat) (hn : n ≤ 4096)
    (hs : St h0 h (W rb bs f :: pts xb 0 false [ptr rb] :: F)) :
    ∃ (I5 : (Option Addr × Nat × Nat) × Int → Heap → Prop), ∃ (μ6 : (Option Addr × Nat × Nat) × Int → Heap → Nat), I5 ((none, 0, 0), 0) h ∧ ∀ (s7 : (Option Addr × Nat × Nat) × Int) h8, I5 s7 h8 →
     br (decide (s7.2 < (n : Int)))
      (CallsH Tryz.prog fd #[ptr xb] h8 fun v9 h10 => ∃ (cs11 : Array Value), cs11.size = sz ∧ v9 = .agg cs11 ∧
        newBlk h10 tid zero fun b12 h13 => storeP (some sz) h13 (Addr.mk b12 0 none) (.agg cs11) fun h14 =>
         deref (some (Addr.mk xb 0 none)) fun a15 => ∃ p16, cell h14 (a15.add 0) = some (.pointer p16) ∧
          CallsH Tryz.prog n_wire_Reader_Fails #[.pointer p16] h14 fun v17 h18 => Ext h14 h18 ∧ ∃ t19, v17 = .bool t19 ∧
            br t19 (∃ p l c, Value.slice none 0 0 = .slice p l c ∧ St h0 h18 (kn (fun h => LsR sz R h (.slice p l c) (decIt D n [] bs f).1) :: W rb (decIt D n [] bs f).2.1 (decIt D n [] bs f).2.2 :: pts xb 0 false [ptr rb] :: F))
             (∃ (cs20 : Array Value), row h18 (Addr.mk b12 0 none) sz = some cs20 ∧ cs20.size = sz ∧
              newBlk h18 tid (cs20.toList ++ []).toArray fun b21 h22 => appendP tid sz bytes zero s7.1.1 s7.1.2.1 s7.1.2.2 (some (Addr.mk b21 0 none)) 1 h22 fun p23 l24 c25 h26 =>
               I5 ((p23, l24, c25), IntKind.wrap .i64 (s7.2 + 1)) h26 ∧ μ6 ((p23, l24, c25), IntKind.wrap .i64 (s7.2 + 1)) h26 < μ6 s7 h8))
      (∃ p l c, Value.slice s7.1.1 s7.1.2.1 s7.1.2.2 = .slice p l c ∧ St h0 h8 (kn (fun h => LsR sz R h (.slice p l c) (decIt D n [] bs f).1) :: W rb (decIt D n [] bs f).2.1 (decIt D n [] bs f).2.2 :: pts xb 0 false [ptr rb] :: F)) := by
  refine ⟨fun s h' => ∃ (j : Nat) (p : Option Addr) (c : Nat) (rows : List (List Value)) (xs : List α) (bs' : Bytes) (f' : Bool), s = ((p, j, c), (j : Int)) ∧ j ≤ n ∧ rows.length = j ∧ xs.length = j ∧ decIt D (n - j) xs bs' f' = decIt D n [] bs f ∧
      St h0 h' (W rb bs' f' :: pts xb 0 false [ptr rb] :: own sz p j c rows.flatten :: kn (Rows sz R rows xs) :: F), fun s _ => ((n : Int) - s.2).toNat,
    ⟨0, none, 0, [], [], bs, f, rfl, Nat.zero_le _, rfl, rfl, rfl, ?_⟩, ?_⟩
  · have s1 := (hs.knAdd (φ := Rows sz R [] []) fun h i h1 => by simp at h1).nil sz
    exact s1.up3.up3
  clear hs
  rintro s h8 ⟨j, p, c, rows, xs, bs', f', rfl, hj, hrl, hxl, he, st⟩
  rw [br_decide]
  refine ⟨fun hlt => ?_, fun hge => ?_⟩
  · have hlt : j < n := by omega
    refine (hd st).mono fun v h10 ⟨cs, hv, hcl, ho, st⟩ => ⟨cs.toArray, by simpa using hcl, hv, ?_⟩
    have hsplit : n - j = (n - (j + 1)) + 1 := by omega
    rw [hsplit, decIt] at he
    simp only at he
    refine st.newBlk fun b12 h13 _ st _ => ?_
    refine st.storeAll (by simpa using hz) (by simpa using hcl) (one_list ho) fun h14 st => ?_
    have st : St h0 h14 (pts b12 0 false cs :: kn (fun h => R h cs (D bs' f').1) :: W rb (D bs' f').2.1 (D bs' f').2.2 :: pts xb 0 false [ptr rb] :: own sz p j c rows.flatten :: kn (Rows sz R rows xs) :: F) := st
    simp only [deref_some, add_mk, Nat.zero_add]
    refine ⟨_, st.up3.cell0 (i := 0) rfl, (fails_ok st.up2.at).mono fun v h18 ⟨hv, hh⟩ => ?_⟩
    subst hh
    refine ⟨Ext.refl _, _, hv, ?_⟩
    cases hf : (D bs' f').2.2 with
    | true =>
      rw [if_pos hf] at he
      rw [← he]
      refine br_yes rfl ⟨none, 0, 0, rfl, ?_⟩
      have s1 : St h0 h18 (W rb (D bs' f').2.1 true :: pts xb 0 false [ptr rb] :: F) := by
        rw [hf] at st
        exact ((st.drop.drop.up2.drop).up2.drop)
      rw [hf]
      exact s1.knAdd fun h => LsR.none
    | false =>
      rw [if_neg (by rw [hf]; simp)] at he
      refine br_no rfl ⟨_, st.row0 hcl, by simpa using hcl, ?_⟩
      refine st.newBlk fun b21 h22 _ st _ => ?_
      have st : St h0 h22 (pts b21 0 false cs :: pts b12 0 false cs :: kn (fun h => R h cs (D bs' f').1) :: W rb (D bs' f').2.1 (D bs' f').2.2 :: pts xb 0 false [ptr rb] :: own sz p j c rows.flatten :: kn (Rows sz R rows xs) :: F) := by
        simpa using st
      have hb2 : (j + 1) * bytes ≤ 140737488355328 := Nat.le_trans (Nat.mul_le_mul (show j + 1 ≤ 4096 by omega) hb) (by omega)
      refine St.append (xs := cs) st.up5 ⟨by rw [hcl, Nat.one_mul], ?_⟩ ho hz hb2 (by unfold maxLen; omega) fun p' c' h26 st _ => ?_
      · show row h22 (Addr.mk b21 0 none) (1 * sz) = _
        rw [Nat.one_mul]
        exact st.row0 hcl
      have hw : IntKind.wrap .i64 ((j : Int) + 1) = ((j + 1 : Nat) : Int) := by rw [wrap_i64 (by omega) (by omega)]; rfl
      refine ⟨⟨j + 1, p', c', rows ++ [cs], xs ++ [(D bs' f').1], (D bs' f').2.1, (D bs' f').2.2, by show ((p', j + 1, c'), IntKind.wrap .i64 ((j : Int) + 1)) = _; rw [hw], hlt, by simp [hrl], by simp [hxl], he, ?_⟩, by show ((n : Int) - IntKind.wrap .i64 ((j : Int) + 1)).toNat < ((n : Int) - (j : Int)).toNat; rw [hw]; omega⟩
      rw [rows_flat] at st
      have s1 := st.up1.drop.up1.drop
      have s2 : St h0 h26 (kn (Rows sz R rows xs) :: kn (fun h => R h cs (D bs' f').1) :: own sz p' (j + 1) c' (rows ++ [cs]).flatten :: W rb (D bs' f').2.1 (D bs' f').2.2 :: pts xb 0 false [ptr rb] :: F) := s1.up4.up2.up1
      have s3 := s2.knBoth.knMono (ψ := Rows sz R (rows ++ [cs]) (xs ++ [(D bs' f').1])) fun h ⟨h1, h2⟩ => h1.snoc (by omega) hcl ho h2
      exact s3.up1.up3.up3
  · obtain rfl : j = n := by omega
    rw [Nat.sub_self, decIt] at he
    simp only at he
    rw [← he]
    refine ⟨p, j, c, rfl, ?_⟩
    have s1 := st.up2.knOwn
    have s2 := (s1.up3.knBoth).knMono (ψ := fun h => LsR sz R h (.slice p j c) xs) fun h ⟨h1, h2, h3, h4⟩ => ⟨p, j, c, rows, rfl, h2, hrl, hxl, h4, h1⟩
    exact s2
end
end Go.Proofs.YthlmiijlhiiccaaGreat
