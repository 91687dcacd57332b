/- Layer 18: Encode, whole. -/
import Derived.Test.YthlmiijlhiiccaaGreatmd
set_option linter.unusedVariables false
set_option maxRecDepth 100000
namespace Go.Proofs.YthlmiijlhiiccaaGreat
open Go Go.Vc Go.Proofs Go.Vc.Keys
theorem fieldsK_le (k : Int) : (fieldsK k).length ≤ 12 := by
  unfold fieldsK
  split
  · simp
  split
  · simp
  split
  · simp
  split
  · simp
  split
  · simp
  split
  · simp
  split
  · simp
  split <;> simp
/-- What Encode answers. -/
def Told (h0 : Heap) (o : OB) (v : Value) (h' : Heap) : Prop := ∃ p l c, v = .tuple #[.slice p l c, .int .i64 (if o = none then 1 else 0)] ∧ New h0 h' [own 1 p l c (bcs (o.getD []))] ∧ (o.getD []).length ≤ 1000000000
section
variable {h : Heap}
theorem encode18_ok {cs : List Value} {m : Ms} (hx : MsR h cs m) (sm : Small m) : CallsH Tryz.prog n_message_Encode #[.agg cs.toArray] h (Told h (encM m)) := by
  refine C_message_Encode cs.toArray ?_
  unfold F_message_Encode
  have hlen := hx.len
  refine (St.start h).newBlk fun b0 h1 _ st _ => ?_
  simp only [add_mk, Nat.zero_add]
  refine ⟨_, st.cell0 (i := 0) hx.kind, ?_⟩
  refine (fields_ok m.kind).mono fun v h4 ⟨p, l, c, hv, hp, nw⟩ => ⟨nw.ext, p, l, c, hv, ?_⟩
  have st := st.join nw
  simp only [List.cons_append, List.nil_append] at st
  by_cases hne : fieldsK m.kind = []
  · refine br_yes (by rw [hp.2 hne]; rfl) ⟨none, 0, 0, ?_, ?_⟩
    · unfold encM; rw [if_pos hne]; rfl
    · have : (encM m).getD [] = [] := by unfold encM; rw [if_pos hne]; rfl
      rw [this]
      exact ⟨((st.drop.drop).nil 1).new ⟨owns_own, trivial⟩, Nat.zero_le _⟩
  refine br_no (by cases hq : p with | none => exact absurd (hp.1 hq) hne | some a => rfl) ?_
  have hfl : (fieldsK m.kind).length = l := by have := st.len.1; simpa [fldC] using this
  have hf12 := fieldsK_le m.kind
  refine st.newBlk fun b8 h9 _ st _ => ?_
  have st := Wo.mk st
  refine ⟨_, st.up2.cell0 (i := 0) hx.kind, ?_⟩
  refine (ou8_ok st m.kind (by omega)).mono fun v h12 ⟨hv, st⟩ => ⟨hv, ?_⟩
  rw [nil_app] at st
  have tot : encM m = app (encI 1 0 255 m.kind) (encFs m (fieldsK m.kind)) := by unfold encM; rw [if_neg hne]
  -- the answer
  have fin : ∀ {h' : Heap} {o : OB} {N : Nat} {G : List HP}, N ≤ 1000000000 → o = encM m → St h h' (Wo b8 o N :: G) → CallsH Tryz.prog n_wire_Writer_Out #[.pointer (some (Addr.mk b8 0 none))] h' fun v h24 => Ext h' h24 ∧ ∃ p25 l26 c27 n28, v = .tuple #[.slice p25 l26 c27, .int .i64 n28] ∧
      br (n28 != 0) (Told h (encM m) (.tuple #[.slice none 0 0, .int .i64 1]) h24) (Told h (encM m) (.tuple #[.slice p25 l26 c27, .int .i64 0]) h24) := by
    intro h' o N G hN ho st
    subst ho
    have hbound : (( encM m).getD []).length ≤ 1000000000 := by
      obtain ⟨bs, sp, h1, h2, s⟩ := Wo.op st
      cases he : encM m with
      | none => exact Nat.zero_le _
      | some x =>
        rw [he] at h2
        obtain ⟨rfl, rfl⟩ : sp = false ∧ bs = x := h2
        exact Nat.le_trans h1 hN
    refine (oout_ok st hN).mono fun v h24 ⟨p, l, c, hv, nw⟩ => ⟨nw.ext, p, l, c, _, hv, ?_⟩
    cases he : encM m with
    | none =>
      rw [he] at hbound
      refine br_yes rfl ⟨none, 0, 0, rfl, ?_⟩
      exact ⟨(((St.start h).keep (st.ext.trans nw.ext)).nil 1).new ⟨owns_own, trivial⟩, Nat.zero_le _⟩
    | some x =>
      rw [he] at nw
      rw [he] at hbound
      exact br_no rfl ⟨p, l, c, rfl, nw.under st.ext, hbound⟩
  refine ⟨fun i h' => ∃ (j : Nat) (o : OB), i = j ∧ j ≤ l ∧ app o (encFs m ((fieldsK m.kind).drop j)) = encM m ∧ St h h' [Wo b8 o (1 + 2000000 * j), own 1 p l c (fldC (fieldsK m.kind)), pts b0 0 false cs], fun i _ => ((l : Int) - i).toNat,
    ⟨0, _, rfl, Nat.zero_le _, by rw [List.drop_zero]; exact tot.symm, st⟩, ?_⟩
  clear st
  rintro i h16 ⟨j, o, rfl, hj, ho, st⟩
  rw [br_decide]
  refine ⟨fun hlt => ⟨by omega, hlt, ?_⟩, fun hge => ?_⟩
  · have hjf : j < (fieldsK m.kind).length := by omega
    obtain ⟨a, rfl, hc⟩ := (rd_own st.up1.at).cell (i := j) (by simpa [fldC] using hjf)
    have hcv : (fldC (fieldsK m.kind))[j]'(by simpa [fldC] using hjf) = .int .i64 (((fieldsK m.kind)[j] : Nat) : Int) := by simp [fldC]
    rw [hcv] at hc
    simp only [deref_some, Int.toNat_natCast, Nat.mul_one]
    refine ⟨_, hc, _, st.up2.row0 hlen, ?_⟩
    refine (stops_ok (m := m) hx.kind hx.err (fieldsK m.kind)[j]).mono fun v h21 ⟨hv, e⟩ => ⟨e, _, hv, ?_⟩
    have st := st.keep e
    rw [List.drop_eq_getElem_cons hjf, encFs] at ho
    rw [br_and]
    refine ⟨fun ht => ?_, fun ht => ⟨_, st.up2.row0 hlen, ?_⟩⟩
    · rw [if_pos ht, app_nil] at ho
      exact fin (by omega) ho st
    · rw [if_neg (by rw [ht]; simp), ← app_assoc] at ho
      refine (efield_ok (cs := cs) st hx sm (by omega) (fieldsK m.kind)[j]).mono fun v h31 ⟨hv, st⟩ => ⟨hv, ?_⟩
      rw [wrap_i64 (by omega) (by omega)]
      exact ⟨⟨j + 1, _, by omega, by omega, ho, Wo.mono st (by omega)⟩, by omega⟩
  · obtain rfl : j = l := by omega
    rw [List.drop_of_length_le (by omega), encFs, app_nil] at ho
    exact fin (by omega) ho st
end
end Go.Proofs.YthlmiijlhiiccaaGreat
