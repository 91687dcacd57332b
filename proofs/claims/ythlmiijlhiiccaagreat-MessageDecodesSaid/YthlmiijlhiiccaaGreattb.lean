/- Layer 18: MessageDecodes. -/
import Derived.Test.YthlmiijlhiiccaaGreatta
import Derived.Test.YthlmiijlhiiccaaGreatsi
import Derived.Test.YthlmiijlhiiccaaGreatsc
import Derived.Test.YthlmiijlhiiccaaGreatmk
import Derived.Test.YthlmiijlhiiccaaGreatFi
set_option linter.unusedVariables false
set_option linter.unusedSimpArgs false
set_option maxRecDepth 100000
namespace Go.Proofs.YthlmiijlhiiccaaGreat
open Go Go.Vc Go.Proofs Go.Vc.Keys
section
variable {h : Heap}
theorem messageDecodes_ok {p : Option Addr} {l c : Nat} {b : Bytes} (hx : Bs h p l b) : CallsH Tryz.prog n_law18_MessageDecodes #[.slice p l c] h fun v h' => v = .bool true ∧ Ext h h' := by
  refine C_law18_MessageDecodes p l c ?_
  unfold F_law18_MessageDecodes
  have aw : ∀ {h' : Heap}, Ext h h' → CallsH Tryz.prog n_law18_awake #[] h' fun v h14 => Ext h' h14 ∧ ∃ t15, v = .bool t15 ∧ (Value.bool t15 = .bool true ∧ Ext h h14) := fun e0 => awake18_ok.mono fun v h14 ⟨hv, e⟩ => ⟨e, _, hv, rfl, e0.trans e⟩
  refine ⟨fun _ h' => Ext h h' ∧ l ≤ 20000, awake18_ok.mono fun v h4 ⟨hv, e⟩ => ⟨e, _, hv, br_no rfl ?_⟩, ?_⟩
  · rw [br_decide]
    exact ⟨fun _ => aw e, fun hl => ⟨e, by omega⟩⟩
  rintro _ h17 ⟨e0, hl⟩
  refine (decode18_ok (hx.ext e0) (by omega)).mono fun v h26 ⟨e, cs1, hv, hms⟩ => ⟨e, cs1.toArray, by simpa using hms.len, _, hv, ?_⟩
  have e1 := e0.trans e
  have hl1 := hms.len
  have ho1 := hms.ones
  refine (St.start h26).newBlk fun b29 h30 _ st _ => ?_
  refine st.storeAll rfl (by simpa using hl1) (one_list ho1) fun h31 st => ?_
  have st : St h26 h31 [pts b29 0 false cs1] := st
  cases hd : decM b with
  | none =>
    rw [hd] at hms hv
    refine br_yes rfl (br_yes rfl ?_)
    have hms : MsR h26 cs1 zeroMs := hms
    have hz : MsR h31 (zeroC msS) zeroMs := msR_zero 0 (by unfold I64; omega)
    refine ⟨_, st.row0 hl1, (same18_ok (keeps_Ms _ _ _ _ st.ext hms) hz (zero_fit 0).small).mono fun v h41 hq => ?_⟩
    obtain ⟨t, hv, hr, e2⟩ := hq
    obtain rfl : t = true := hr.2 rfl
    exact ⟨e2, _, hv, rfl, (e1.trans st.ext).trans e2⟩
  | some m =>
    rw [hd] at hms hv
    obtain ⟨he, hbm⟩ := decM_sound hd
    have ft := decM_fit hd
    have hms : MsR h26 cs1 m := hms
    have hfk : fieldsK m.kind ≠ [] := fun e => by unfold encM at he; rw [if_pos e] at he; cases he
    refine br_no rfl ?_
    refine ⟨_, st.row0 hl1, (rbytes_ok (keeps_Ms _ _ _ _ st.ext hms) ft.small ft.short).mono fun v h27 ht => ?_⟩
    obtain ⟨q, l', c', hv, nw, hbl⟩ := ht
    rw [he] at nw hv hbl
    refine ⟨nw.ext, q, l', c', _, hv, br_yes rfl ?_⟩
    have st := st.join nw
    have hb := bs_own (bs := b) st.at
    refine (same_ok ((hx.ext e1).ext st.ext) hb (by omega)).mono fun v h33 ⟨hv, hh⟩ => ?_
    subst hh
    refine ⟨Ext.refl _, _, hv, ?_⟩
    rw [decide_eq_true rfl]
    refine br_yes rfl ?_
    have st := st.up1
    refine ⟨_, st.row0 hl1, _, st.row0 hl1, (bare18_ok (keeps_Ms _ _ _ _ st.ext hms) ft.small hfk).mono fun v h40 ⟨cs', hv, e', hb'⟩ => ⟨e', _, by simpa using hb'.len, hv, ?_⟩⟩
    rw [hbm] at hb'
    refine (same18_ok (keeps_Ms _ _ _ _ (st.ext.trans e') hms) hb' ft.small).mono fun v h41 hq => ?_
    obtain ⟨t, hv, hr, e2⟩ := hq
    obtain rfl : t = true := hr.2 rfl
    exact ⟨e2, _, hv, rfl, ((e1.trans st.ext).trans e').trans e2⟩
end
end Go.Proofs.YthlmiijlhiiccaaGreat
