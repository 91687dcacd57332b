/- Layer 18: the reference's bare rows. -/
import Derived.Test.YthlmiijlhiiccaaGreatsf
set_option linter.unusedVariables false
set_option linter.unusedSimpArgs false
set_option maxRecDepth 100000
namespace Go.Proofs.YthlmiijlhiiccaaGreat
open Go Go.Vc Go.Proofs Go.Vc.Keys
def rwC (r : Rw) : List Value := .bool r.leaf :: (bcs r.key ++ (bcs r.value ++ (pfC r.p ++ (bcs r.left ++ bcs r.right))))
structure RwOk (r : Rw) : Prop where
  key : r.key.length = 32
  value : r.value.length = 32
  p : PfOk r.p
  left : r.left.length = 32
  right : r.right.length = 32
theorem rwR_ok {h : Heap} {cs : List Value} {r : Rw} (hr : RwR h cs r) : RwOk r ∧ cs = rwC r := ⟨⟨hr.1, hr.2.1, hr.2.2.1, hr.2.2.2.1, hr.2.2.2.2.1⟩, hr.2.2.2.2.2⟩
theorem rwR_mk {h : Heap} {r : Rw} (k : RwOk r) : RwR h (rwC r) r := ⟨k.key, k.value, k.p, k.left, k.right, rfl⟩
theorem rwC_len {r : Rw} (k : RwOk r) : (rwC r).length = 162 := by simp [rwC, bcs_length, k.key, k.value, pfC_len k.p, k.left, k.right]
theorem rwC_ones (r : Rw) : ones (rwC r) := ones_cons rfl (ones_app (one_bcs _) (ones_app (one_bcs _) (ones_app (ones_pfC _) (ones_app (one_bcs _) (one_bcs _)))))
theorem rwC_parts {r : Rw} (k : RwOk r) : ((rwC r).drop 1).take 32 = bcs r.key ∧ ((rwC r).drop 33).take 32 = bcs r.value ∧ ((rwC r).drop 65).take 33 = pfC r.p ∧ ((rwC r).drop 98).take 32 = bcs r.left ∧ ((rwC r).drop 130).take 32 = bcs r.right := by
  have l1 : (bcs r.key).length = 32 := by rw [bcs_length, k.key]
  have l2 : (bcs r.value).length = 32 := by rw [bcs_length, k.value]
  have l3 := pfC_len k.p
  have l4 : (bcs r.left).length = 32 := by rw [bcs_length, k.left]
  have l5 : (bcs r.right).length = 32 := by rw [bcs_length, k.right]
  have d0 : (rwC r).drop 0 = [.bool r.leaf] ++ (bcs r.key ++ (bcs r.value ++ (pfC r.p ++ (bcs r.left ++ bcs r.right)))) := rfl
  have d1 := dn d0 rfl rfl
  have d2 := dn d1 l1 rfl
  have d3 := dn d2 l2 rfl
  have d4 := dn d3 l3 rfl
  have d5 := dn d4 l4 (show bcs r.right = bcs r.right ++ [] by rw [List.append_nil])
  exact ⟨tk d1 l1, tk d2 l2, tk d3 l3, tk d4 l4, tk d5 l5⟩
theorem bareRw_ok {r : Rw} (k : RwOk r) : RwOk (bareRw r) := by
  unfold bareRw
  split
  · exact ⟨k.key, k.value, pf0_ok, rfl, rfl⟩
  · exact ⟨rfl, rfl, k.p, k.left, k.right⟩
section
variable {h : Heap}
theorem rows18_ok {c : Value} {xs : List Rw} (hx : LsR 162 RwR h c xs) (hl5 : xs.length ≤ 5000) : CallsH Tryz.prog n_ref18_Rows #[c] h fun v h' => Ext h h' ∧ ∃ p l cap, v = .slice p l cap ∧ ∀ {h0 : Heap} {F : List HP}, St h0 h F → St h0 h' (kn (fun h => LsR 162 RwR h (.slice p l cap) (xs.map bareRw)) :: F) := by
  obtain ⟨p, l, cap, rfl, hlc, hxl, getx⟩ := hx.get (by omega)
  refine C_ref18_Rows p l cap ?_
  unfold F_ref18_Rows
  refine ⟨fun s h' => ∃ (j : Nat) (q : Option Addr) (c : Nat) (rows : List (List Value)), s = ((q, j, c), (j : Int)) ∧ j ≤ l ∧ rows.length = j ∧ New h h' [own 162 q j c rows.flatten] ∧ Rows 162 RwR rows ((xs.map bareRw).take j) h, fun s _ => ((l : Int) - s.2).toNat,
    ⟨0, none, 0, [], rfl, Nat.zero_le _, rfl, ((St.start h).nil 162).new ⟨owns_own, trivial⟩, fun i h1 => by simp at h1⟩, ?_⟩
  rintro s h3 ⟨j, q, c, rows, rfl, hj, hrl, nw, hR⟩
  rw [br_decide]
  refine ⟨fun hlt => ?_, fun hge => ?_⟩
  · have hjx : j < xs.length := by omega
    obtain ⟨b, o, cs, rfl, hrow, hcl, _, hr⟩ := getx j hjx
    obtain ⟨ok, rfl⟩ := rwR_ok hr
    obtain ⟨p1, p2, p3, p4, p5⟩ := rwC_parts ok
    have zp : (pfC xs[j].p).toArray.size = 33 := by simpa using pfC_len ok.p
    have zl : (bcs xs[j].left).toArray.size = 32 := by simp [bcs_length, ok.left]
    have zr : (bcs xs[j].right).toArray.size = 32 := by simp [bcs_length, ok.right]
    have zk : (bcs xs[j].key).toArray.size = 32 := by simp [bcs_length, ok.key]
    have zv : (bcs xs[j].value).toArray.size = 32 := by simp [bcs_length, ok.value]
    have part1 : ∀ {h' : Heap} {i n : Nat} {w : List Value}, Ext h h' → i + n ≤ 162 → ((rwC xs[j]).drop i).take n = w → row h' (Addr.mk b (o + j * 162 + i) none) n = some w.toArray := fun e hin hw => by
      rw [← hw]
      exact row_part (src_ext e (p := some _) hrow) hcl hin
    simp only [deref_some, add_mk, Int.toNat_natCast]
    refine ⟨by omega, hlt, _, part1 nw.ext (by omega) p3, by omega, hlt, _, part1 nw.ext (by omega) p4, by omega, hlt, _, part1 nw.ext (by omega) p5, zp, zl, zr, ?_⟩
    have st := nw.st
    refine st.newBlk fun b10 h11 _ st e11 => ?_
    have hjb : j < (xs.map bareRw).length := by simpa using hjx
    have done : ∀ {p' : Option Addr} {c' : Nat} {h26 : Heap} {r' : Rw}, r' = bareRw xs[j] → St h h26 [own 162 p' (j + 1) c' (rows.flatten ++ rwC r')] →
        (∃ (j' : Nat) (q : Option Addr) (c : Nat) (rows : List (List Value)), ((p', j + 1, c'), IntKind.wrap .i64 ((j : Int) + 1)) = ((q, j', c), (j' : Int)) ∧ j' ≤ l ∧ rows.length = j' ∧ New h h26 [own 162 q j' c rows.flatten] ∧ Rows 162 RwR rows ((xs.map bareRw).take j') h) ∧ ((l : Int) - IntKind.wrap .i64 ((j : Int) + 1)).toNat < ((l : Int) - (j : Int)).toNat := by
      intro p' c' h26 r' hr' s
      subst hr'
      rw [rows_flat] at s
      rw [wrap_i64 (by omega) (by omega)]
      refine ⟨⟨j + 1, p', c', rows ++ [rwC (bareRw xs[j])], rfl, by omega, by simp [hrl], s.new ⟨owns_own, trivial⟩, ?_⟩, by omega⟩
      rw [List.take_succ_eq_append_getElem hjb, List.getElem_map]
      exact Rows.snoc (by simp; omega) hR (rwC_len (bareRw_ok ok)) (rwC_ones _) (rwR_mk (bareRw_ok ok))
    have okb : RwOk { zeroRw with p := xs[j].p, left := xs[j].left, right := xs[j].right } := ⟨rfl, rfl, ok.p, ok.left, ok.right⟩
    have okl : RwOk { zeroRw with leaf := true, key := xs[j].key, value := xs[j].value } := ⟨ok.key, ok.value, pf0_ok, rfl, rfl⟩
    have hmax : (j + 1) * 176 ≤ 140737488355328 := by omega
    rw [List.append_nil]
    refine st.storeAll (cs := (rwC { zeroRw with p := xs[j].p, left := xs[j].left, right := xs[j].right }).toArray) rfl (by simpa using rwC_len okb) (one_list (rwC_ones _)) fun h12 st => ?_
    have st : St h h12 [pts b10 0 false (rwC { zeroRw with p := xs[j].p, left := xs[j].left, right := xs[j].right }), own 162 q j c rows.flatten] := st
    refine ⟨by omega, hlt, _, row_cells (src_ext st.ext (p := some _) hrow) hcl (i := 0) rfl, ?_⟩
    cases hlf : xs[j].leaf with
    | true =>
      refine br_yes rfl ⟨by omega, hlt, _, part1 st.ext (by omega) p1, by omega, hlt, _, part1 st.ext (by omega) p2, zk, zv, ?_⟩
      refine st.storeAll (cs := (rwC { zeroRw with leaf := true, key := xs[j].key, value := xs[j].value }).toArray) (by simpa using rwC_len okb) (by simpa using rwC_len okl) (one_list (rwC_ones _)) fun h19 st => ?_
      have st : St h h19 [pts b10 0 false (rwC { zeroRw with leaf := true, key := xs[j].key, value := xs[j].value }), own 162 q j c rows.flatten] := st
      refine ⟨_, st.row0 (rwC_len okl), by simpa using rwC_len okl, st.newBlk fun b21 h22 _ st _ => ?_⟩
      rw [List.append_nil] at st
      refine St.append (xs := rwC { zeroRw with leaf := true, key := xs[j].key, value := xs[j].value }) st.up2 ⟨by rw [rwC_len okl], ?_⟩ (rwC_ones _) rfl hmax (by unfold maxLen; omega) fun p' c' h26 st _ => ?_
      · exact st.row0 (rwC_len okl)
      exact done (by unfold bareRw; rw [if_pos hlf]) st.up1.drop.up1.drop
    | false =>
      refine br_no rfl ?_
      refine ⟨_, st.row0 (rwC_len okb), by simpa using rwC_len okb, st.newBlk fun b21 h22 _ st _ => ?_⟩
      rw [List.append_nil] at st
      refine St.append (xs := rwC { zeroRw with p := xs[j].p, left := xs[j].left, right := xs[j].right }) st.up2 ⟨by rw [rwC_len okb], ?_⟩ (rwC_ones _) rfl hmax (by unfold maxLen; omega) fun p' c' h26 st _ => ?_
      · exact st.row0 (rwC_len okb)
      exact done (by unfold bareRw; rw [if_neg (by rw [hlf]; simp)]) st.up1.drop.up1.drop
  · obtain rfl : j = l := by omega
    refine ⟨nw.ext, q, j, c, rfl, fun st => ?_⟩
    have s1 := (st.join nw)
    have s2 : St _ _ (own 162 q j c rows.flatten :: _) := s1
    have hl := s2.len
    have e : (xs.map bareRw).take j = xs.map bareRw := List.take_of_length_le (by simp; omega)
    rw [e] at hR
    exact s2.knOwn.knMono fun h ⟨k1, k2, k3⟩ => ⟨q, j, c, rows, rfl, k1, hrl, by simp; omega, k3, fun i a b => hR i a b⟩
end
end Go.Proofs.YthlmiijlhiiccaaGreat
