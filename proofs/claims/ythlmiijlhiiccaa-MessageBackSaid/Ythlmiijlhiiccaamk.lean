/- Layer 18: awake; messages of a size that is looked at. -/
import Derived.Test.Ythlmiijlhiiccaami
import Derived.Test.Ythlmiijlhiiccaamj
import Derived.Test.YthlmiijlhiiccaaL1
import Derived.Test.YthlmiijlhiiccaaFi
set_option linter.unusedVariables false
set_option maxRecDepth 100000
namespace Go.Proofs.Ythlmiijlhiiccaa
open Go Go.Vc Go.Proofs Go.Vc.Keys
section
variable {h : Heap}
theorem enc_seven {m : Ms} (h1 : m.kind = 7) (h2 : m.src = 1) (h3 : m.dst = 2) : encM m = some [7, 0, 0, 0, 1, 0, 0, 0, 2] := by
  have st : ∀ f, stopsM m f = false := fun f => by
    have : (m.kind == 4) = false := by rw [h1]; rfl
    unfold stopsM
    rw [this]; rfl
  simp [h1, h2, h3, st, encM, fieldsK, encFs, encF]
  rfl
theorem small_none {m : Ms} (h1 : m.sg.sig.length ≤ 9000) (h2 : m.growth.ahead.length ≤ 30 ∧ m.growth.behind.length ≤ 30) (h3 : m.place.ahead.length ≤ 30 ∧ m.place.behind.length ≤ 30) (h4 : m.proof.steps.length ≤ 30) (h5 : m.chain.length ≤ 30) (h6 : m.rows.length ≤ 30) (h7 : m.news.length ≤ 30) (h8 : m.trees.length ≤ 30) : Small m :=
  ⟨by omega, by omega, by omega, by omega, by omega, by omega, by omega, by omega⟩
theorem sub_get {cs : List Value} {i n j : Nat} {v : Value} (e : ((cs.drop i).take n)[j]? = some v) : cs[i + j]? = some v := by
  rw [List.getElem?_take] at e
  split at e
  · rw [List.getElem?_drop] at e; exact e
  · cases e
/-- Sizes of all that a message has. -/
structure Few18 (m : Ms) : Prop where
  label : m.label.length ≤ 100
  value : m.value.length ≤ 100
  sig : m.sg.sig.length ≤ 9000
  steps : m.proof.steps.length ≤ 30
  chain : m.chain.length ≤ 30
  rows : m.rows.length ≤ 30
  news : m.news.length ≤ 30
  trees : m.trees.length ≤ 30
  growth : m.growth.ahead.length ≤ 30 ∧ m.growth.behind.length ≤ 30
  place : m.place.ahead.length ≤ 30 ∧ m.place.behind.length ≤ 30
  chains : ∀ x ∈ m.chain, x.value.length ≤ 100
  texts : ∀ x ∈ m.news, x.label.length ≤ 100 ∧ x.v.value.length ≤ 100
theorem Few18.small {m : Ms} (f : Few18 m) : Small m := small_none f.sig f.growth f.place f.steps f.chain f.rows f.news f.trees
theorem Few18.short {m : Ms} (f : Few18 m) : Short m := ⟨by have := f.label; omega, by have := f.value; omega, fun x hx => by have := f.chains x hx; omega, fun x hx => by have := f.texts x hx; omega⟩
theorem LsR.hd {α : Type} {sz : Nat} {R : Rel α} {c : Value} {xs : List α} (r : LsR sz R h c xs) : ∃ p l cap, c = .slice p l cap ∧ xs.length = l := by
  obtain ⟨p, l, cap, rows, a, b, d, f, _⟩ := r
  exact ⟨p, l, cap, a, f⟩
theorem TxtR.hd {c : Value} {x : Bytes} (r : TxtR h c x) : ∃ p l cap, c = .slice p l cap ∧ x.length = l := by
  obtain ⟨p, l, cap, a, b, d⟩ := r
  exact ⟨p, l, cap, a, d.1⟩
theorem few18_ok {cs : List Value} {m : Ms} (hx : MsR h cs m) : CallsH Try.prog n_ref18_Few #[.agg cs.toArray] h fun v h' => ∃ g, v = .bool g ∧ Ext h h' ∧ (g = true → Few18 m) := by
  refine C_ref18_Few cs.toArray ?_
  unfold F_ref18_Few
  refine (St.start h).newBlk fun b0 h1 _ st _ => ?_
  simp only [add_mk, Nat.zero_add]
  have st : St h h1 [pts b0 0 false cs] := st
  obtain ⟨c7, k7, g7⟩ := hx.label
  obtain ⟨p7, l7, q7, rfl, e7⟩ := g7.hd
  obtain ⟨c8, k8, g8⟩ := hx.value
  obtain ⟨p8, l8, q8, rfl, e8⟩ := g8.hd
  obtain ⟨c9, k9, g9⟩ := hx.sg.sig
  obtain ⟨p9, l9, q9, rfl, e9⟩ := g9.hd
  obtain ⟨c10, d10, k10, g10, g11⟩ := hx.growth
  obtain ⟨p10, l10, q10, rfl, e10⟩ := g10.hd
  obtain ⟨p11, l11, q11, rfl, e11⟩ := g11.hd
  obtain ⟨c12, d12, k12, g12, g13⟩ := hx.place
  obtain ⟨p12, l12, q12, rfl, e12⟩ := g12.hd
  obtain ⟨p13, l13, q13, rfl, e13⟩ := g13.hd
  obtain ⟨c14, k14, g14⟩ := hx.proof.steps
  obtain ⟨p14, l14, q14, rfl, e14⟩ := g14.hd
  obtain ⟨c15, k15, g15⟩ := hx.chain
  obtain ⟨p15, l15, q15, rfl, e15⟩ := g15.hd
  obtain ⟨c16, k16, g16⟩ := hx.rows
  obtain ⟨p16, l16, q16, rfl, e16⟩ := g16.hd
  obtain ⟨c17, k17, g17⟩ := hx.news
  obtain ⟨p17, l17, q17, rfl, e17⟩ := g17.hd
  obtain ⟨c18, k18, g18⟩ := hx.trees
  obtain ⟨p18, l18, q18, rfl, e18⟩ := g18.hd
  have k9 := sub_get k9
  have k14 := sub_get k14
  have k10a : cs[76 + 0]? = _ := sub_get (n := 2) (j := 0) (by rw [k10]; rfl)
  have k10b : cs[76 + 1]? = _ := sub_get (n := 2) (j := 1) (by rw [k10]; rfl)
  have k12a : cs[78 + 0]? = _ := sub_get (n := 2) (j := 0) (by rw [k12]; rfl)
  have k12b : cs[78 + 1]? = _ := sub_get (n := 2) (j := 1) (by rw [k12]; rfl)
  have no : ∀ {h' : Heap} {t : Bool}, Ext h h' → t = false → ∃ g, Value.bool t = .bool g ∧ Ext h h' ∧ (g = true → Few18 m) := fun e ht => ⟨_, rfl, e, fun hh => by rw [ht] at hh; cases hh⟩
  refine ⟨fun _ h' => St h h' [pts b0 0 false cs] ∧ l7 ≤ 100 ∧ l8 ≤ 100 ∧ l9 ≤ 9000 ∧ l14 ≤ 30 ∧ l15 ≤ 30 ∧ l16 ≤ 30 ∧ l17 ≤ 30 ∧ l18 ≤ 30, ?_, ?_⟩
  · refine ⟨_, _, _, st.cell0 k7, ?_⟩
    rw [br_decide]
    refine ⟨fun _ => no st.ext rfl, fun t7 => ⟨_, _, _, st.cell0 k8, ?_⟩⟩
    rw [br_decide]
    refine ⟨fun _ => no st.ext rfl, fun t8 => ⟨_, _, _, st.cell0 k9, ?_⟩⟩
    rw [br_decide]
    refine ⟨fun _ => no st.ext rfl, fun t9 => ⟨_, _, _, st.cell0 k14, ?_⟩⟩
    rw [br_decide]
    refine ⟨fun _ => no st.ext rfl, fun t14 => ⟨_, _, _, st.cell0 k15, ?_⟩⟩
    rw [br_decide]
    refine ⟨fun _ => no st.ext rfl, fun t15 => ⟨_, _, _, st.cell0 k16, ?_⟩⟩
    rw [br_decide]
    refine ⟨fun _ => no st.ext rfl, fun t16 => ⟨_, _, _, st.cell0 k17, ?_⟩⟩
    rw [br_decide]
    refine ⟨fun _ => no st.ext rfl, fun t17 => ⟨_, _, _, st.cell0 k18, ?_⟩⟩
    rw [br_decide]
    exact ⟨fun _ => no st.ext rfl, fun t18 => ⟨st, by omega, by omega, by omega, by omega, by omega, by omega, by omega, by omega⟩⟩
  clear st
  rintro _ h28 ⟨st, t7, t8, t9, t14, t15, t16, t17, t18⟩
  refine ⟨fun _ h' => St h h' [pts b0 0 false cs] ∧ l10 ≤ 30 ∧ l11 ≤ 30 ∧ l12 ≤ 30 ∧ l13 ≤ 30, ?_, ?_⟩
  · refine ⟨_, _, _, st.cell0 k10a, ?_⟩
    rw [br_decide]
    refine ⟨fun _ => no st.ext rfl, fun t7 => ⟨_, _, _, st.cell0 k10b, ?_⟩⟩
    rw [br_decide]
    refine ⟨fun _ => no st.ext rfl, fun t8 => ⟨_, _, _, st.cell0 k12a, ?_⟩⟩
    rw [br_decide]
    refine ⟨fun _ => no st.ext rfl, fun t9 => ⟨_, _, _, st.cell0 k12b, ?_⟩⟩
    rw [br_decide]
    exact ⟨fun _ => no st.ext rfl, fun t18 => ⟨st, by omega, by omega, by omega, by omega⟩⟩
  clear st
  rintro _ h43 ⟨st, t10, t11, t12, t13⟩
  refine ⟨fun n h' => ∃ j : Nat, n = j ∧ j ≤ m.chain.length ∧ St h h' [pts b0 0 false cs] ∧ ∀ i (hi : i < m.chain.length), i < j → m.chain[i].value.length ≤ 100, fun n _ => ((l15 : Int) - n).toNat, ⟨0, rfl, Nat.zero_le _, st, fun i _ hi => by omega⟩, ?_⟩
  clear st
  rintro n h47 ⟨j, rfl, hj, st, ht⟩
  refine ⟨_, _, _, st.cell0 k15, ?_⟩
  rw [br_decide]
  refine ⟨fun hlt => ⟨_, _, _, st.cell0 k15, by omega, hlt, ?_⟩, fun hge => ?_⟩
  · have hjl : j < m.chain.length := by omega
    obtain ⟨p, l, cap, hc, _, _, get⟩ := (g15.ext keeps_Vr st.ext).get (by omega)
    cases hc
    obtain ⟨b, o, r, rfl, hrow, hrl, _, hv⟩ := get j hjl
    obtain ⟨c, hc, hT⟩ := hv.value
    obtain ⟨p, l, cap, rfl, el⟩ := hT.hd
    simp only [Int.toNat_natCast, deref_some, add_mk]
    refine ⟨_, _, _, row_cells hrow hrl hc, ?_⟩
    rw [br_decide]
    refine ⟨fun _ => no st.ext rfl, fun hs => ?_⟩
    rw [wrap_i64 (by omega) (by omega)]
    refine ⟨⟨j + 1, rfl, by omega, st, fun i hi hij => ?_⟩, by show ((l15 : Int) - ((j : Int) + 1)).toNat < ((l15 : Int) - (j : Int)).toNat; omega⟩
    by_cases hji : i = j
    · subst hji; omega
    · exact ht i hi (by omega)
  have hch : ∀ x ∈ m.chain, x.value.length ≤ 100 := fun x hx => by
    obtain ⟨i, hi, rfl⟩ := List.mem_iff_getElem.1 hx
    exact ht i hi (by omega)
  refine ⟨fun n h' => ∃ j : Nat, n = j ∧ j ≤ m.news.length ∧ St h h' [pts b0 0 false cs] ∧ ∀ i (hi : i < m.news.length), i < j → m.news[i].label.length ≤ 100 ∧ m.news[i].v.value.length ≤ 100, fun n _ => ((l17 : Int) - n).toNat, ⟨0, rfl, Nat.zero_le _, st, fun i _ hi => by omega⟩, ?_⟩
  clear st ht
  rintro n h61 ⟨j, rfl, hj, st, ht⟩
  refine ⟨_, _, _, st.cell0 k17, ?_⟩
  rw [br_decide]
  refine ⟨fun hlt => ⟨_, _, _, st.cell0 k17, by omega, hlt, ?_⟩, fun hge => ?_⟩
  · have hjl : j < m.news.length := by omega
    obtain ⟨p, l, cap, hc, _, _, get⟩ := (g17.ext keeps_Nw st.ext).get (by omega)
    cases hc
    obtain ⟨b, o, r, rfl, hrow, hrl, _, c, vs, rfl, hT, hv⟩ := get j hjl
    obtain ⟨p, l, cap, rfl, el⟩ := hT.hd
    obtain ⟨c', hc', hT'⟩ := hv.value
    obtain ⟨p', l', cap', rfl, el'⟩ := hT'.hd
    simp only [Int.toNat_natCast, deref_some, add_mk]
    refine ⟨_, _, _, row_cells hrow hrl (i := 0) rfl, ?_⟩
    rw [br_decide]
    refine ⟨fun _ => no st.ext rfl, fun hs => ?_⟩
    refine ⟨_, _, _, st.cell0 k17, by omega, hlt, ?_⟩
    simp only [deref_some, add_mk]
    refine ⟨_, _, _, row_cells hrow hrl (i := 67) (by exact hc'), ?_⟩
    rw [br_decide]
    refine ⟨fun _ => no st.ext rfl, fun hs' => ?_⟩
    rw [wrap_i64 (by omega) (by omega)]
    refine ⟨⟨j + 1, rfl, by omega, st, fun i hi hij => ?_⟩, by show ((l17 : Int) - ((j : Int) + 1)).toNat < ((l17 : Int) - (j : Int)).toNat; omega⟩
    by_cases hji : i = j
    · subst hji; omega
    · exact ht i hi (by omega)
  have hnw : ∀ x ∈ m.news, x.label.length ≤ 100 ∧ x.v.value.length ≤ 100 := fun x hx => by
    obtain ⟨i, hi, rfl⟩ := List.mem_iff_getElem.1 hx
    exact ht i hi (by omega)
  exact ⟨true, rfl, st.ext, fun _ => ⟨by omega, by omega, by omega, by omega, by omega, by omega, by omega, by omega, by omega, by omega, hch, hnw⟩⟩
theorem ls_zero {α : Type} {sz : Nat} {R : Rel α} {cs : List Value} {i : Nat} {xs : List α} (r : ∃ c, cs[i]? = some c ∧ LsR sz R h c xs) (hz : cs[i]? = some (.slice none 0 0)) : xs.length = 0 := by
  obtain ⟨c, hc, hL⟩ := r
  rw [hz] at hc
  cases hc
  obtain ⟨p, l, cap, e, el⟩ := hL.hd
  cases e
  exact el
theorem tx_zero {cs : List Value} {i : Nat} {x : Bytes} (r : ∃ c, cs[i]? = some c ∧ TxtR h c x) (hz : cs[i]? = some (.slice none 0 0)) : x.length = 0 := by
  obtain ⟨c, hc, hL⟩ := r
  rw [hz] at hc
  cases hc
  obtain ⟨p, l, cap, e, el⟩ := hL.hd
  cases e
  exact el
theorem tr_zero {cs : List Value} {t : Trl} (r : TrR h cs t) (hz : cs = [.slice none 0 0, .slice none 0 0]) : t.ahead.length = 0 ∧ t.behind.length = 0 := by
  obtain ⟨c, d, e, h1, h2⟩ := r
  rw [hz] at e
  cases e
  obtain ⟨p, l, cap, e, el⟩ := h1.hd
  cases e
  obtain ⟨p, l, cap, e, el'⟩ := h2.hd
  cases e
  exact ⟨el, el'⟩
theorem three_small {a b c : Int} {m : Ms} (hm : MsR h ([.int .i64 a] ++ ([.int .i64 b] ++ ([.int .i64 c] ++ zeroC msT))) m) : Small m := by
  have h1 := tx_zero hm.sg.sig rfl
  have h2 := tr_zero hm.growth rfl
  have h3 := tr_zero hm.place rfl
  have h4 := ls_zero hm.proof.steps rfl
  have h5 := ls_zero hm.chain rfl
  have h6 := ls_zero hm.rows rfl
  have h7 := ls_zero hm.news rfl
  have h8 := ls_zero hm.trees rfl
  exact small_none (by omega) (by omega) (by omega) (by omega) (by omega) (by omega) (by omega) (by omega)
/-- A program that does nothing does not answer so. -/
theorem awake18_ok : CallsH Try.prog n_law18_awake #[] h fun v h' => v = .bool true ∧ Ext h h' := by
  refine C_law18_awake ?_
  unfold F_law18_awake
  obtain ⟨m, hm, k1, k2, k3⟩ := ms_three (h := h) 7 1 2 rfl rfl rfl
  have sm := three_small hm
  have he := enc_seven k1 k2 k3
  have hh := encode18_ok hm sm
  rw [he] at hh
  refine CallsH.mono (R := Told h (some [7, 0, 0, 0, 1, 0, 0, 0, 2])) (by exact hh) fun v h1 hv => ?_
  obtain ⟨p, l, c, hv, nw, _⟩ := hv
  refine ⟨nw.ext, p, l, c, 0, hv, br_yes rfl ?_⟩
  have hl := nw.st.len
  have hext := nw.ext
  have r := rd_own nw.st.at
  have hl1 : l = 9 := by have := hl.1; simp [bcs] at this; omega
  subst hl1
  refine br_yes rfl ⟨by omega, by omega, ?_⟩
  obtain ⟨a, rfl, h0⟩ := r.cell (i := 0) (by simp [bcs])
  obtain ⟨a', e', h4⟩ := r.cell (i := 4) (by simp [bcs])
  cases e'
  simp only [deref_some]
  exact ⟨_, h0, br_yes rfl ⟨by omega, by omega, _, h4, rfl, hext⟩⟩
theorem messageEncodes_ok {cs : List Value} {m : Ms} (hx : MsR h cs m) : CallsH Try.prog n_law18_MessageEncodes #[.agg cs.toArray] h fun v h' => v = .bool true ∧ Ext h h' := by
  refine C_law18_MessageEncodes cs.toArray ?_
  unfold F_law18_MessageEncodes
  have hlen := hx.len
  refine (St.start h).newBlk fun b0 h1 _ st _ => ?_
  have st : St h h1 [pts b0 0 false cs] := st
  refine ⟨fun _ h' => St h h' [pts b0 0 false cs] ∧ Few18 m, awake18_ok.mono fun v h4 ⟨hv, e⟩ => ⟨e, _, hv, br_no rfl ?_⟩, ?_⟩
  · have st := st.keep e
    refine ⟨_, st.row0 hlen, (few18_ok (keeps_Ms _ _ _ _ st.ext hx)).mono fun v h11 ⟨g, hv, e, hg⟩ => ⟨e, g, hv, ?_⟩⟩
    have st := st.keep e
    cases g with
    | false => exact br_yes rfl (awake18_ok.mono fun v h14 ⟨hv, e⟩ => ⟨e, _, hv, rfl, (st.keep e).ext⟩)
    | true => exact br_no rfl ⟨st, hg rfl⟩
  clear st
  rintro _ h17 ⟨st, fw⟩
  have sm := fw.small
  have sh := fw.short
  refine ⟨_, st.row0 hlen, (encode18_ok (keeps_Ms _ _ _ _ st.ext hx) sm).mono fun v h20 ht => ?_⟩
  obtain ⟨p, l, c, hv, nw, _⟩ := ht
  refine ⟨nw.ext, p, l, c, _, hv, ?_⟩
  have st := st.join nw
  refine ⟨_, st.up1.row0 hlen, (rbytes_ok (keeps_Ms _ _ _ _ st.ext hx) sm sh).mono fun v h27 ht => ?_⟩
  obtain ⟨q, l', c', hv, nw', hl⟩ := ht
  refine ⟨nw'.ext, q, l', c', _, hv, ?_⟩
  have st := st.join nw'
  have hb := bs_own (bs := (encM m).getD []) st.at
  have ha := bs_own (bs := (encM m).getD []) st.up1.at
  have hl1 := ha.1
  have sm' : ∀ {K : Value → Heap → Prop}, (∀ h', Ext h h' → K (.bool true) h') → CallsH Try.prog n_ref01_Same #[.slice p l c, .slice q l' c'] h27 fun v32 h33 => Ext h27 h33 ∧ ∃ t34, v32 = Value.bool t34 ∧ K (.bool t34) h33 := fun hK => by
    refine (same_ok ha hb (by omega)).mono fun v h' ⟨hv, he⟩ => ?_
    subst he
    exact ⟨Ext.refl _, _, hv, by rw [decide_eq_true rfl]; exact hK _ st.ext⟩
  have fin : ∀ h', Ext h h' → Value.bool true = .bool true ∧ Ext h h' := fun _ e => ⟨rfl, e⟩
  cases he : encM m with
  | none =>
    exact br_yes rfl (br_no rfl (br_yes rfl (sm' (K := fun v h' => v = .bool true ∧ Ext h h') fin)))
  | some x =>
    exact br_yes rfl (br_yes rfl (sm' (K := fun v h' => v = .bool true ∧ Ext h h') fin))
end
end Go.Proofs.Ythlmiijlhiiccaa
