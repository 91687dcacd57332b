/- Layer 18: bytes, lists and messages that are the same. -/
import Derived.Test.YthlmiijlhiiccaaGreatsa
import Derived.Test.YthlmiijlhiiccaaGreatmd
set_option linter.unusedVariables false
set_option linter.unusedSimpArgs false
set_option maxRecDepth 100000
namespace Go.Proofs.YthlmiijlhiiccaaGreat
open Go Go.Vc Go.Proofs Go.Vc.Keys
theorem ba_loop (bs : ByteArray) : ∀ (n i : Nat) (r : List UInt8), bs.size - i = n → ByteArray.toList.loop bs i r = r.reverse ++ bs.data.toList.drop i := by
  intro n
  have hs : bs.data.toList.length = bs.size := Array.length_toList
  induction n with
  | zero =>
    intro i r h
    unfold ByteArray.toList.loop
    rw [if_neg (by omega), List.drop_of_length_le (by omega), List.append_nil]
  | succ n ih =>
    intro i r h
    have hi : i < bs.data.toList.length := by omega
    have hi2 : i < bs.data.size := hi
    unfold ByteArray.toList.loop
    rw [if_pos (by omega), ih (i + 1) _ (by omega), List.drop_eq_getElem_cons hi]
    have : bs.get! i = bs.data.toList[i] := by
      show bs.data[i]! = _
      rw [getElem!_pos bs.data i hi2]
      rfl
    rw [this, List.reverse_cons, List.append_assoc]
    rfl
theorem ba_list (xs : List UInt8) : ByteArray.toList (ByteArray.mk xs.toArray) = xs := by
  unfold ByteArray.toList
  rw [ba_loop _ _ 0 [] rfl]
  rfl
/-- Whether it is so, is told. -/
def Eqs (h : Heap) (P : Prop) (v : Value) (h' : Heap) : Prop := ∃ t, v = .bool t ∧ (t = true ↔ P) ∧ Ext h h'
section
variable {h : Heap}
theorem eqs_no {h' : Heap} {P : Prop} (e : Ext h h') (hn : ¬ P) : Eqs h P (.bool false) h' := ⟨false, rfl, ⟨fun hh => (by cases hh), fun hp => absurd hp hn⟩, e⟩
theorem eqs_yes {h' : Heap} {P : Prop} (e : Ext h h') (hp : P) : Eqs h P (.bool true) h' := ⟨true, rfl, ⟨fun _ => hp, fun _ => rfl⟩, e⟩
theorem bytes_equal_ok {c d : Value} {x y : Bytes} (hx : TxtR h c x) (hy : TxtR h d y) : CallsH Tryz.prog n_bytes_Equal #[c, d] h (Eqs h (x = y)) := by
  obtain ⟨p, l, cap, rfl, _, hb⟩ := hx
  obtain ⟨q, m, cap', rfl, _, hb'⟩ := hy
  refine C_bytes_Equal p l cap q m cap' ?_
  unfold F_bytes_Equal
  have h1 := hb.2.2
  have h2 := hb'.2.2
  rw [Nat.mul_one] at h1 h2
  refine ⟨x, h1, y, h2, _, rfl, ?_, Ext.refl _⟩
  rw [ba_list, ba_list, beq_iff_eq]
theorem eq_body {α : Type} {sz : Nat} {t : TypeId} {R : Rel α} (hz : 0 < sz) (heq : ∀ {h : Heap} {cs ds : List Value} {x y : α} {K : Bool → Prop}, R h cs x → R h ds y → (∀ r, (r = true ↔ x = y) → K r) → eqAgg Tryz.prog t cs.toArray ds.toArray K)
    {p q : Option Addr} {l m c d : Nat} {xs ys : List α} (hx : LsR sz R h (.slice p l c) xs) (hy : LsR sz R h (.slice q m d) ys) (hl : l ≤ 1000000000) :
    br ((l : Int) != (m : Int)) (Eqs h (xs = ys) (.bool false) h) (∃ (I0 : Int → Heap → Prop), ∃ (μ1 : Int → Heap → Nat), I0 0 h ∧ ∀ n2 h3, I0 n2 h3 → br (decide (n2 < (l : Int)))
      (0 ≤ n2 ∧ n2 < (l : Int) ∧ deref p fun a4 => ∃ cs5 : Array Value, row h3 (a4.add (Int.toNat n2 * sz)) sz = some cs5 ∧ 0 ≤ n2 ∧ n2 < (m : Int) ∧ deref q fun a6 => ∃ cs7 : Array Value, row h3 (a6.add (Int.toNat n2 * sz)) sz = some cs7 ∧
        eqAgg Tryz.prog t cs5 cs7 fun t8 => br (!t8) (Eqs h (xs = ys) (.bool false) h3) (I0 (IntKind.wrap .i64 (n2 + 1)) h3 ∧ μ1 (IntKind.wrap .i64 (n2 + 1)) h3 < μ1 n2 h3)) (Eqs h (xs = ys) (.bool true) h3)) := by
  obtain ⟨p', l', c', e1, _, ex, getx⟩ := hx.get hz
  cases e1
  obtain ⟨q', m', d', e2, _, ey, gety⟩ := hy.get hz
  cases e2
  rw [br_bne]
  refine ⟨fun hne => eqs_no (Ext.refl _) (fun e => hne (by rw [← ex, ← ey, e])), fun hlm => ?_⟩
  have hlm : l = m := by omega
  subst hlm
  refine ⟨fun n h' => ∃ j : Nat, n = j ∧ j ≤ l ∧ h' = h ∧ xs.take j = ys.take j, fun n _ => ((l : Int) - n).toNat, ⟨0, rfl, Nat.zero_le _, rfl, rfl⟩, ?_⟩
  rintro n h3 ⟨j, rfl, hj, rfl, ht⟩
  rw [br_decide]
  refine ⟨fun hlt => ⟨by omega, hlt, ?_⟩, fun hge => ?_⟩
  · have hjx : j < xs.length := by omega
    have hjy : j < ys.length := by omega
    obtain ⟨b, o, cs, rfl, r1, l1, o1, k1⟩ := getx j hjx
    obtain ⟨b', o', ds, rfl, r2, l2, o2, k2⟩ := gety j hjy
    simp only [deref_some, add_mk, Int.toNat_natCast]
    refine ⟨_, r1, by omega, hlt, _, r2, heq k1 k2 fun r hr => ?_⟩
    cases r with
    | false => exact br_yes rfl (eqs_no (Ext.refl _) (fun e => by
        have : xs[j] = ys[j] := by subst e; rfl
        exact absurd (hr.2 this) (by simp)))
    | true =>
      refine br_no rfl ?_
      rw [wrap_i64 (by omega) (by omega)]
      refine ⟨⟨j + 1, rfl, by omega, by trivial, ?_⟩, by show ((l : Int) - ((j : Int) + 1)).toNat < ((l : Int) - (j : Int)).toNat; omega⟩
      rw [List.take_succ_eq_append_getElem hjx, List.take_succ_eq_append_getElem hjy, ht, hr.1 rfl]
  · obtain rfl : j = l := by omega
    refine eqs_yes (Ext.refl _) ?_
    rwa [List.take_of_length_le (by omega), List.take_of_length_le (by omega)] at ht
theorem eqf_body {α : Type} {sz fd : Nat} {tid : TypeId} {zero : Array Value} {R : Rel α} (hz : 0 < sz) (hzs : zero.size = sz) (kp : Keeps R) (hcall : ∀ {h : Heap} {cs ds : List Value} {x y : α}, R h cs x → R h ds y → CallsH Tryz.prog fd #[.agg cs.toArray, .agg ds.toArray] h (Eqs h (x = y)))
    {p q : Option Addr} {l m c d : Nat} {xs ys : List α} (hx : LsR sz R h (.slice p l c) xs) (hy : LsR sz R h (.slice q m d) ys) (hl : l ≤ 1000000000) :
    br ((l : Int) != (m : Int)) (Eqs h (xs = ys) (.bool false) h) (∃ (I0 : Int → Heap → Prop), ∃ (μ1 : Int → Heap → Nat), I0 0 h ∧ ∀ n2 h3, I0 n2 h3 → br (decide (n2 < (l : Int)))
      (0 ≤ n2 ∧ n2 < (l : Int) ∧ deref p fun a4 => ∃ cs5 : Array Value, row h3 (a4.add (Int.toNat n2 * sz)) sz = some cs5 ∧ newBlk h3 tid zero fun b6 h7 => storeP (some sz) h7 (Addr.mk b6 0 none) (.agg cs5) fun h8 =>
        0 ≤ n2 ∧ n2 < (m : Int) ∧ deref q fun a9 => ∃ cs10 : Array Value, row h8 (a9.add (Int.toNat n2 * sz)) sz = some cs10 ∧ newBlk h8 tid zero fun b11 h12 => storeP (some sz) h12 (Addr.mk b11 0 none) (.agg cs10) fun h13 =>
        ∃ cs14 : Array Value, row h13 (Addr.mk b6 0 none) sz = some cs14 ∧ ∃ cs15 : Array Value, row h13 (Addr.mk b11 0 none) sz = some cs15 ∧ CallsH Tryz.prog fd #[.agg cs14, .agg cs15] h13 fun v16 h17 => Ext h13 h17 ∧ ∃ t18, v16 = .bool t18 ∧
        br (!t18) (Eqs h (xs = ys) (.bool false) h17) (I0 (IntKind.wrap .i64 (n2 + 1)) h17 ∧ μ1 (IntKind.wrap .i64 (n2 + 1)) h17 < μ1 n2 h3)) (Eqs h (xs = ys) (.bool true) h3)) := by
  obtain ⟨p', l', c', e1, _, ex, _⟩ := hx.get hz
  cases e1
  obtain ⟨q', m', d', e2, _, ey, _⟩ := hy.get hz
  cases e2
  rw [br_bne]
  refine ⟨fun hne => eqs_no (Ext.refl _) (fun e => hne (by rw [← ex, ← ey, e])), fun hlm => ?_⟩
  have hlm : l = m := by omega
  subst hlm
  refine ⟨fun n h' => ∃ j : Nat, n = j ∧ j ≤ l ∧ Ext h h' ∧ xs.take j = ys.take j, fun n _ => ((l : Int) - n).toNat, ⟨0, rfl, Nat.zero_le _, Ext.refl _, rfl⟩, ?_⟩
  rintro n h3 ⟨j, rfl, hj, e3, ht⟩
  rw [br_decide]
  refine ⟨fun hlt => ⟨by omega, hlt, ?_⟩, fun hge => ?_⟩
  · have hjx : j < xs.length := by omega
    have hjy : j < ys.length := by omega
    obtain ⟨_, _, _, e1, _, _, getx⟩ := (hx.ext kp e3).get hz
    cases e1
    obtain ⟨b, o, cs, rfl, r1, l1, o1, k1⟩ := getx j hjx
    simp only [deref_some, add_mk, Int.toNat_natCast]
    refine ⟨_, r1, ?_⟩
    refine (St.start h3).newBlk fun b6 h7 _ st _ => ?_
    refine st.storeAll (by simpa using hzs) (by simpa using l1) (one_list o1) fun h8 st => ⟨by omega, hlt, ?_⟩
    have e8 := e3.trans st.ext
    obtain ⟨_, _, _, e2, _, _, gety⟩ := (hy.ext kp e8).get hz
    cases e2
    obtain ⟨b', o', ds, rfl, r2, l2, o2, k2⟩ := gety j hjy
    simp only [deref_some, add_mk, Int.toNat_natCast]
    refine ⟨_, r2, ?_⟩
    refine (St.start h8).newBlk fun b11 h12 _ s2 _ => ?_
    refine s2.storeAll (by simpa using hzs) (by simpa using l2) (one_list o2) fun h13 s2 => ?_
    have s2 : St h8 h13 [pts b11 0 false ds] := s2
    have st : St h3 h13 [pts b6 0 false cs] := st.keep s2.ext
    have k1' := kp _ _ _ _ st.ext k1
    have k2' := kp _ _ _ _ s2.ext k2
    refine ⟨_, st.row0 l1, _, s2.row0 l2, (hcall k1' k2').mono fun v h17 hq => ?_⟩
    obtain ⟨t, hv, hr, e17⟩ := hq
    refine ⟨e17, t, hv, ?_⟩
    have e : Ext h h17 := (e3.trans st.ext).trans e17
    cases t with
    | false => exact br_yes rfl (eqs_no e (fun e => by
        have : xs[j] = ys[j] := by subst e; rfl
        exact absurd (hr.2 this) (by simp)))
    | true =>
      refine br_no rfl ?_
      rw [wrap_i64 (by omega) (by omega)]
      refine ⟨⟨j + 1, rfl, by omega, e, ?_⟩, by show ((l : Int) - ((j : Int) + 1)).toNat < ((l : Int) - (j : Int)).toNat; omega⟩
      rw [List.take_succ_eq_append_getElem hjx, List.take_succ_eq_append_getElem hjy, ht, hr.1 rfl]
  · obtain rfl : j = l := by omega
    refine eqs_yes e3 ?_
    rwa [List.take_of_length_le (by omega), List.take_of_length_le (by omega)] at ht
theorem sameHashes_ok {c d : Value} {xs ys : List Bytes} (hx : LsR 32 HashR h c xs) (hy : LsR 32 HashR h d ys) (hl : xs.length ≤ 1000000000) : CallsH Tryz.prog n_slices_Equal_api_Hash_api_Hash #[c, d] h (Eqs h (xs = ys)) := by
  obtain ⟨p, l, c', e, _, ex, _⟩ := hx.get (by omega)
  subst e
  obtain ⟨q, m, d', e, _, ey, _⟩ := hy.get (by omega)
  subst e
  refine C_slices_Equal_api_Hash_api_Hash p l c' q m d' ?_
  unfold F_slices_Equal_api_Hash_api_Hash
  exact eq_body (R := HashR) (by omega) (fun a b k => eqA_HashR (h := h) a b k) hx hy (by omega)
theorem sameSteps_ok {c d : Value} {xs ys : List Stp} (hx : LsR 65 StpR h c xs) (hy : LsR 65 StpR h d ys) (hl : xs.length ≤ 1000000000) : CallsH Tryz.prog n_slices_Equal_proof_Step_proof_Step #[c, d] h (Eqs h (xs = ys)) := by
  obtain ⟨p, l, c', e, _, ex, _⟩ := hx.get (by omega)
  subst e
  obtain ⟨q, m, d', e, _, ey, _⟩ := hy.get (by omega)
  subst e
  refine C_slices_Equal_proof_Step_proof_Step p l c' q m d' ?_
  unfold F_slices_Equal_proof_Step_proof_Step
  exact eq_body (R := StpR) (by omega) (fun a b k => eqA_StpR (h := h) a b k) hx hy (by omega)
theorem sameRows_ok {c d : Value} {xs ys : List Rw} (hx : LsR 162 RwR h c xs) (hy : LsR 162 RwR h d ys) (hl : xs.length ≤ 1000000000) : CallsH Tryz.prog n_slices_Equal_delta_Row_delta_Row #[c, d] h (Eqs h (xs = ys)) := by
  obtain ⟨p, l, c', e, _, ex, _⟩ := hx.get (by omega)
  subst e
  obtain ⟨q, m, d', e, _, ey, _⟩ := hy.get (by omega)
  subst e
  refine C_slices_Equal_delta_Row_delta_Row p l c' q m d' ?_
  unfold F_slices_Equal_delta_Row_delta_Row
  exact eq_body (R := RwR) (by omega) (fun a b k => eqA_RwR (h := h) a b k) hx hy (by omega)
theorem sameTrail_ok {cs ds : List Value} {x y : Trl} (hx : TrR h cs x) (hy : TrR h ds y) (hl : x.ahead.length ≤ 1000000000 ∧ x.behind.length ≤ 1000000000) : CallsH Tryz.prog n_message_sameTrail #[.agg cs.toArray, .agg ds.toArray] h (Eqs h (x = y)) := by
  obtain ⟨c1, c2, rfl, a1, a2⟩ := hx
  obtain ⟨d1, d2, rfl, b1, b2⟩ := hy
  refine C_message_sameTrail _ _ ?_
  unfold F_message_sameTrail
  refine (St.start h).newBlk fun b0 h1 _ st _ => st.newBlk fun b2' h3 _ st _ => ?_
  have st : St h h3 [pts b2' 0 false [d1, d2], pts b0 0 false [c1, c2]] := st
  simp only [add_mk, Nat.zero_add]
  have g1 := sameHashes_ok (a1.ext keeps_Hash st.ext) (b1.ext keeps_Hash st.ext) hl.1
  obtain ⟨p, l, c, _, rfl, _⟩ := id a1
  obtain ⟨q, m, d, _, rfl, _⟩ := id b1
  refine ⟨_, _, _, st.up1.cell0 (i := 0) rfl, _, _, _, st.cell0 (i := 0) rfl, g1.mono fun v h11 hq => ?_⟩
  obtain ⟨t, hv, hr, e⟩ := hq
  refine ⟨e, t, hv, ?_⟩
  have st := st.keep e
  cases t with
  | false => exact br_no rfl (eqs_no st.ext fun e => by
      have := hr.2 (by rw [e]); cases this)
  | true =>
    refine br_yes rfl ?_
    have g2 := sameHashes_ok (a2.ext keeps_Hash st.ext) (b2.ext keeps_Hash st.ext) hl.2
    obtain ⟨p', l', c', _, rfl, _⟩ := id a2
    obtain ⟨q', m', d', _, rfl, _⟩ := id b2
    refine ⟨_, _, _, st.up1.cell0 (i := 1) rfl, _, _, _, st.cell0 (i := 1) rfl, g2.mono fun v h20 hq => ?_⟩
    obtain ⟨t, hv, hr', e⟩ := hq
    refine ⟨e, t, hv, t, rfl, ?_, st.ext.trans e⟩
    have h1 := hr.1 rfl
    rw [hr']
    constructor
    · intro h2
      cases x; cases y
      simp only at h1 h2
      rw [h1, h2]
    · intro e; rw [e]
end
end Go.Proofs.YthlmiijlhiiccaaGreat
