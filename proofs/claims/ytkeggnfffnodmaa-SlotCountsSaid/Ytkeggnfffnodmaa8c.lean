/- Layer 8: SlotCounts. -/
import Derived.Test.Ytkeggnfffnodmaa8b
set_option linter.unusedVariables false
set_option maxRecDepth 100000
namespace Go.Proofs.Ytkeggnfffnodmaa
open Go Go.Vc Go.Proofs
/-- Lists of bytes that came in. -/
def Bls (h : Heap) (p : Option Addr) (n : Nat) (S : List Pg) : Prop := S.length = n ∧ Rd h 1 p n (S.map (·.1.v)) ∧ ∀ e ∈ S, Bs h e.1.1 e.1.2.1 e.2
theorem Bls.ext {h h' : Heap} {p : Option Addr} {n : Nat} {S : List Pg} (r : Bls h p n S) (e : Ext h h') : Bls h' p n S := ⟨r.1, r.2.1.ext e, fun x hx => (r.2.2 x hx).ext e⟩
theorem Bls.get {h : Heap} {p : Option Addr} {n : Nat} {S : List Pg} (r : Bls h p n S) {i : Nat} (hi : i < S.length) : ∃ a, p = some a ∧ cell h (a.add i) = some (.slice S[i].1.1 S[i].1.2.1 S[i].1.2.2) ∧ Bs h S[i].1.1 S[i].1.2.1 S[i].2 := by
  obtain ⟨a, e, hc⟩ := r.2.1.cell (i := i) (by simpa using hi)
  rw [List.getElem_map] at hc
  exact ⟨a, e, hc, r.2.2 _ (List.getElem_mem _)⟩
theorem bls_of {h : Heap} : ∀ {rows : List (List Value)}, (∀ r ∈ rows, Rdb h (.slice (.int .u8)) r) → ∃ S : List Pg, S.length = rows.length ∧ rows.flatten = S.map (·.1.v) ∧ ∀ e ∈ S, Bs h e.1.1 e.1.2.1 e.2
  | [], _ => ⟨[], rfl, rfl, fun e he => by cases he⟩
  | r :: rs, hr => by
    obtain ⟨S, h1, h2, h3⟩ := bls_of fun x hx => hr x (List.mem_cons_of_mem _ hx)
    obtain ⟨p, l, c, bs, e, _, _, hb⟩ := Rdb.bytes (hr r (List.mem_cons_self ..))
    refine ⟨((p, l, c), bs) :: S, by simp [h1], by rw [List.flatten_cons, h2, e]; rfl, fun x hx => ?_⟩
    rcases List.mem_cons.1 hx with h | h
    · subst h; exact hb
    · exact h3 x h
theorem bls_arg {h : Heap} {v : Value} (a : ArgR h (.slice (.slice (.int .u8))) v) : ∃ p l c, ∃ S : List Pg, v = .slice p l c ∧ Bls h p l S := by
  obtain ⟨p, l, c, e, _, _, rows, h1, h2, h3⟩ := a
  obtain ⟨S, g1, g2, g3⟩ := bls_of h3
  exact ⟨p, l, c, S, by simpa using e, by omega, by rw [← g2]; exact h2, g3⟩
theorem slotCounts_ok {h : Heap} {p : Option Addr} {l c : Nat} {S : List Pg} (hS : Bls h p l S) : CallsH Try.prog n_law08_SlotCounts #[.slice p l c] h fun v h' => v = .bool true ∧ Ext h h' := by
  refine C_law08_SlotCounts p l c ?_
  unfold F_law08_SlotCounts
  refine (awake8_ok h).mono fun v h1 ⟨hv, e1⟩ => ⟨e1, true, hv, br_no rfl ?_⟩
  have s := (St.start h).keep e1
  rw [br_decide]
  refine ⟨fun _ => awake8_end s, fun h40 => ?_⟩
  refine (new_ok h1 4 (by omega)).mono fun v h10 ⟨d, hv, nw⟩ => ⟨nw.ext, some (Addr.mk d 0 none), 0, hv, ?_⟩
  have s := s.join nw
  have hlen := hS.1
  refine ⟨fun st h' => ∃ (k c : Nat) (D : Dev) (v : List UInt8), st.2 = k ∧ st.1 = c ∧ c ≤ k ∧ k ≤ l ∧ Up D 4 ∧ D.fuse = -1 ∧ D.queue = [] ∧ Slot D 1 c v ∧ pg D 0 = List.replicate 128 0 ∧ pg D 3 = List.replicate 128 0 ∧ St h h' [Dv d D], fun st _ => (l - st.2).toNat,
    ⟨0, 0, newD 4, [], rfl, rfl, Nat.le_refl _, Nat.zero_le _, newD_up (by omega), rfl, rfl, newD_slot (by omega), newD_pg (by omega), newD_pg (by omega), s⟩, ?_⟩
  clear s
  rintro ⟨nn, i⟩ h16 ⟨k, c, D, v, rfl, rfl, hck, hk, u, hf, hq, sl, g0, g3, s⟩
  dsimp only at *
  rw [br_decide]
  refine ⟨fun hlt => ⟨by omega, hlt, ?_⟩, fun hge => ?_⟩
  · have hk1 : k < S.length := by omega
    obtain ⟨a, rfl, _, hb⟩ := hS.get hk1
    have cell_ : ∀ {h'}, Ext h h' → cell h' (a.add k) = some (.slice S[k].1.1 S[k].1.2.1 S[k].1.2.2) := fun e => by
      obtain ⟨a', e', hc, _⟩ := (hS.ext e).get hk1
      cases e'
      exact hc
    simp only [deref_some, Int.toNat_natCast, Nat.mul_one]
    refine ⟨_, _, _, cell_ s.ext, ?_⟩
    rw [br_decide]
    refine ⟨fun _ => ⟨by trivial, s.ext⟩, fun h300 => ⟨by omega, hlt, _, _, _, cell_ s.ext, ?_⟩⟩
    have hxl := hb.1
    refine (save_ok (at_ := 1) (s.old hb.2).up1 u.wf (by rw [hq]; simp) (by omega) (by omega)).mono fun v h26 ⟨hv, s⟩ => ?_
    have s := s.up1.drop
    refine ⟨_, _, hv, by omega, hlt, _, _, _, cell_ s.ext, ?_⟩
    have hw1 : IntKind.wrap .i64 ((k : Int) + 1) = ((k + 1 : Nat) : Int) := by rw [wrap_i64 (by omega) (by omega)]; omega
    have hw2 : IntKind.wrap .u64 ((c : Int) + 1) = ((c + 1 : Nat) : Int) := by rw [wrap_u64]; omega
    rw [hw1, hw2]
    rw [br_decide]
    refine ⟨fun h110 => ?_, fun h110 => ?_⟩
    · have e : saveD D 1 S[k].2 = ((0, 3), D) := by rw [saveD, if_pos (by omega)]
      rw [e] at s ⊢
      exact br_no rfl (br_no rfl ⟨⟨k + 1, c, D, _, rfl, rfl, by omega, by omega, u, hf, hq, sl, g0, g3, s⟩, by show ((l : Int) - ((k + 1 : Nat) : Int)).toNat < ((l : Int) - (k : Int)).toNat; omega⟩)
    · obtain ⟨D', hsv, u', hf', hq', hse, sl'⟩ := save_slot (xs := S[k].2) u hf (by omega) sl (by omega) (by omega)
      have hsv : saveD D 1 S[k].2 = ((c + 1, 0), D') := hsv
      rw [hsv] at s ⊢
      have hld : loadD D' 1 = ((c + 1, S[k].2), 0) := load_slot (a := 1) u' (by omega) sl'
      refine (load_ok (at_ := 1) s.at u'.wf (by omega) (by omega)).mono fun v h34 ⟨p36, l37, c38, hv, nw2⟩ => ?_
      rw [hld] at hv nw2
      refine ⟨nw2.ext, _, p36, l37, c38, 0, hv, br_no rfl (br_no rfl (br_no (by simp) (br_no (by simp) ⟨by omega, hlt, ?_⟩)))⟩
      have s := s.keep nw2.ext
      refine ⟨_, _, _, cell_ s.ext, ?_⟩
      have hb1 := bs_own nw2.st.at
      refine (same_ok hb1 (hb.ext s.ext) (by have := hb1.1; dsimp only at this; omega)).mono fun v h45 ⟨hv, hh⟩ => ?_
      subst hh
      have hpg := fun j => pg_set (D := D) (D' := D') (i := 1 + (c + 1) % 2) (j := j) hse (by rw [u.wf.seenLen]; omega)
      exact ⟨Ext.refl _, true, by rw [hv, decide_eq_true rfl], br_no rfl ⟨⟨k + 1, c + 1, D', _, rfl, rfl, by omega, by omega, u', hf', hq', sl', by rw [hpg, if_neg (by omega)]; exact g0, by rw [hpg, if_neg (by omega)]; exact g3, s⟩,
        by show ((l : Int) - ((k + 1 : Nat) : Int)).toNat < ((l : Int) - (k : Int)).toNat; omega⟩⟩
  · have r0 : readD D 0 = (pg D 0, 0) := u.read (i := 0) (by omega)
    have r3 : readD D 3 = (pg D 3, 0) := u.read (i := 3) (by omega)
    refine (read_ok s.at u.wf 0).mono fun v h48 ⟨p49, l50, c51, hv, nw⟩ => ?_
    rw [r0, g0] at hv nw
    refine ⟨nw.ext, p49, l50, c51, _, hv, ?_⟩
    have s := s.join nw
    simp only [List.cons_append, List.nil_append] at s
    refine (read_ok s.up1.at u.wf 3).mono fun v h54 ⟨p55, l56, c57, hv, nw⟩ => ?_
    rw [r3, g3] at hv nw
    refine ⟨nw.ext, p55, l56, c57, _, hv, ?_⟩
    have s := s.join nw
    simp only [List.cons_append, List.nil_append] at s
    refine make128 s fun b59 h60 s => ?_
    refine (same_ok (bs_own s.up2.at) (bs_own s.at) (by have := (bs_own s.up2.at).1; simp at this; omega)).mono fun v h62 ⟨hv, hh⟩ => ?_
    subst hh
    refine ⟨Ext.refl _, true, by rw [hv, decide_eq_true rfl], br_yes rfl ?_⟩
    refine make128 s fun b64 h65 s => ?_
    refine (same_ok (bs_own s.up2.at) (bs_own s.at) (by have := (bs_own s.up2.at).1; simp at this; omega)).mono fun v h67 ⟨hv, hh⟩ => ?_
    subst hh
    exact ⟨Ext.refl _, true, by rw [hv, decide_eq_true rfl], rfl, s.ext⟩
end Go.Proofs.Ytkeggnfffnodmaa
