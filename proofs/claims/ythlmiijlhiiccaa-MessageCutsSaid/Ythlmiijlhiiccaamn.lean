/- Layer 18: MessageCuts. -/
import Derived.Test.Ythlmiijlhiiccaamk
import Derived.Test.Ythlmiijlhiiccaadg
import Derived.Test.YthlmiijlhiiccaaFj
set_option linter.unusedVariables false
set_option linter.unusedSimpArgs false
set_option maxRecDepth 100000
namespace Go.Proofs.Ythlmiijlhiiccaa
open Go Go.Vc Go.Proofs Go.Vc.Keys
theorem decM_more {m : Ms} {b rest : Bytes} (h : encM m = some b) (hr : rest ≠ []) : decM (b ++ rest) = none := by rw [decM_full h, if_neg hr]
theorem decM_cut {m : Ms} {b : Bytes} {k : Nat} (h : encM m = some b) (hk : k < b.length) : decM (b.take k) = none := by
  cases hd : decM (b.take k) with
  | none => rfl
  | some m' =>
    obtain ⟨h1, _⟩ := decM_sound hd
    have h2 := decM_more (rest := b.drop k) h1 (by intro e; have := congrArg List.length e; simp at this; omega)
    have h3 := decM_full (rest := []) h
    rw [List.take_append_drop] at h2
    rw [List.append_nil, if_pos rfl] at h3
    rw [h2] at h3; cases h3
theorem encM_pos {m : Ms} {b : Bytes} (h : encM m = some b) : 0 < b.length := by
  rcases Nat.eq_zero_or_pos b.length with h0 | h0
  · have : b = [] := List.eq_nil_of_length_eq_zero h0
    subst this
    have h3 := decM_full (rest := []) h
    rw [List.append_nil, if_pos rfl] at h3
    have h4 : decM [] = none := rfl
    rw [h4] at h3; cases h3
  · exact h0
section
variable {h : Heap}
theorem messageCuts_ok {cs : List Value} {m : Ms} (hx : MsR h cs m) (cut : Int) (hc0 : 0 ≤ cut) (hc1 : cut < 65536) {q : Option Addr} {n c : Nat} {more : Bytes} (hm : Bs h q n more) : CallsH Try.prog n_law18_MessageCuts #[.agg cs.toArray, .int .u16 cut, .slice q n c] h fun v h' => v = .bool true ∧ Ext h h' := by
  refine C_law18_MessageCuts cs.toArray cut q n c ?_
  unfold F_law18_MessageCuts
  have hlen := hx.len
  have hml := hm.1
  refine (St.start h).newBlk fun b0 h1 _ st _ => ?_
  have st : St h h1 [pts b0 0 false cs] := st
  have aw : ∀ {h' : Heap}, Ext h h' → CallsH Try.prog n_law18_awake #[] h' fun v h14 => Ext h' h14 ∧ ∃ t15, v = .bool t15 ∧ (Value.bool t15 = .bool true ∧ Ext h h14) := fun e0 => awake18_ok.mono fun v h14 ⟨hv, e⟩ => ⟨e, _, hv, rfl, e0.trans e⟩
  refine ⟨fun _ h' => St h h' [pts b0 0 false cs] ∧ Few18 m ∧ 0 < n ∧ n ≤ 50, awake18_ok.mono fun v h4 ⟨hv, e⟩ => ⟨e, _, hv, br_no rfl ?_⟩, ?_⟩
  · have st := st.keep e
    refine ⟨_, st.row0 hlen, (few18_ok (keeps_Ms _ _ _ _ st.ext hx)).mono fun v h11 ⟨g, hv, e, hg⟩ => ⟨e, g, hv, ?_⟩⟩
    have st := st.keep e
    cases g with
    | false => exact br_yes rfl (aw st.ext)
    | true =>
      refine br_no rfl ?_
      rw [br_beq]
      refine ⟨fun _ => aw st.ext, fun h1 => ?_⟩
      rw [br_decide]
      exact ⟨fun _ => aw st.ext, fun h2 => ⟨st, hg rfl, by omega, by omega⟩⟩
  clear st
  rintro _ h23 ⟨st, fw, hn0, hn1⟩
  have sm := fw.small
  refine ⟨_, st.row0 hlen, (encode18_ok (keeps_Ms _ _ _ _ st.ext hx) sm).mono fun v h26 ht => ?_⟩
  obtain ⟨p, l, c', hv, nw, hbound⟩ := ht
  refine ⟨nw.ext, p, l, c', _, hv, ?_⟩
  have st := st.join nw
  cases he : encM m with
  | none => exact br_yes rfl ⟨rfl, st.ext⟩
  | some b =>
    rw [he] at st hbound
    have st : St h h26 [own 1 p l c' (bcs b), pts b0 0 false cs] := st
    have hbound : b.length ≤ 1000000000 := hbound
    refine br_no rfl ?_
    have hb := bs_own (bs := b) st.at
    have hbl := hb.1
    have hlc := st.len.2
    have hpos := encM_pos he
    rw [wrap_i64 (by omega) (by omega)]
    obtain ⟨k, hk, hkl⟩ : ∃ k : Nat, Int.tmod cut (l : Int) = k ∧ k < l := by
      have h1 : 0 ≤ Int.tmod cut (l : Int) := Int.tmod_nonneg _ hc0
      have h2 : Int.tmod cut (l : Int) < l := Int.tmod_lt_of_pos _ (by omega)
      exact ⟨(Int.tmod cut (l : Int)).toNat, by omega, by omega⟩
    rw [hk]
    refine ⟨by omega, sliceP_to (by omega) ?_⟩
    refine (decode18_ok (Bs.take hb (by omega)) (by omega)).mono fun v h35 ⟨e, cs1, hv, hms⟩ => ⟨e, cs1.toArray, by simpa using hms.len, _, hv, ?_⟩
    have hl1 := hms.len
    have ho1 := hms.ones
    rw [decM_cut he (by omega)] at hv ⊢
    have st := st.keep e
    refine st.newBlk fun b38 h39 _ st _ => ?_
    refine st.storeAll rfl (by simpa using hl1) (one_list ho1) fun h40 st => ?_
    refine st.newBlk fun b41 h42 _ st _ => ?_
    have st : St h h42 [pts b41 0 false [], pts b38 0 false cs1, own 1 p l c' (bcs b), pts b0 0 false cs] := st
    have st : St h h42 [own 1 (some (Addr.mk b41 0 none)) 0 0 [], pts b38 0 false cs1, own 1 p l c' (bcs b), pts b0 0 false cs] := st.impl fun m q => ⟨rfl, Nat.le_refl _, Nat.zero_le _, .inr ⟨_, 0, [], rfl, rfl, q⟩⟩
    refine St.append (xs := bcs b) st (rd_own st.up2.at) (one_bcs _) rfl (by omega) (by unfold maxLen; omega) fun p3 c3 h46 st _ => ?_
    refine St.append (xs := bcs more) st (hm.ext st.ext).2 (one_bcs _) rfl (by omega) (by unfold maxLen; omega) fun p4 c4 h50 st _ => ?_
    have hb2 : Bs h50 p4 (0 + l + n) (b ++ more) := bs_own (bs := b ++ more) (c := c4) (by
      have e : (b ++ more).map bv = ([] ++ bcs b) ++ bcs more := by rw [List.map_append]; rfl
      rw [e]; exact st.at)
    refine (decode18_ok hb2 (by omega)).mono fun v h52 ⟨e, cs2, hv2, hms2⟩ => ⟨e, cs2.toArray, by simpa using hms2.len, _, hv2, ?_⟩
    rw [decM_more he (by intro e; rw [e] at hml; simp at hml; omega)] at hv2 ⊢
    have st := st.keep e
    refine st.newBlk fun b55 h56 _ st _ => ?_
    refine st.storeAll rfl (by simpa using hms2.len) (one_list hms2.ones) fun h57 st => ?_
    exact br_yes rfl ⟨rfl, st.ext⟩
end
end Go.Proofs.Ythlmiijlhiiccaa
