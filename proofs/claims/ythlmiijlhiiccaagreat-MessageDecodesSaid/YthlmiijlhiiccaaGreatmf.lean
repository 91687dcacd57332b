/- Layer 18: what the reference puts. -/
import Derived.Test.YthlmiijlhiiccaaGreatme
import Derived.Test.YthlmiijlhiiccaaGreatL1
import Derived.Test.YthlmiijlhiiccaaGreatFr
set_option linter.unusedVariables false
set_option maxRecDepth 100000
namespace Go.Proofs.YthlmiijlhiiccaaGreat
open Go Go.Vc Go.Proofs Go.Vc.Keys
def Rst : OB → Bytes → Bool → Prop
  | some x, bs, g => g = true ∧ bs = x
  | none, _, g => g = false
/-- The reference's bytes, or that something may not be put. -/
def Ro (b : Nat) (o : OB) (N : Nat) : HP := fun m => ∃ bs g, (bs.length ≤ N ∧ Rst o bs g) ∧ W b bs g m
section
variable {h0 h : Heap} {F : List HP} {b N : Nat} {o : OB}
theorem Ro.op (hs : St h0 h (Ro b o N :: F)) : ∃ p l c bs g, bs.length ≤ N ∧ Rst o bs g ∧ St h0 h (pts b 0 false [.slice p l c, .bool g] :: own 1 p l c (bcs bs) :: F) := by
  obtain ⟨bs, hs⟩ := St.ex hs
  obtain ⟨g, hs⟩ := St.ex hs
  obtain ⟨h1, hs⟩ := hs.and
  obtain ⟨p, l, c, hs⟩ := W.op hs
  exact ⟨p, l, c, bs, g, h1.1, h1.2, hs⟩
theorem Ro.cl {p : Option Addr} {l c : Nat} {bs : Bytes} {g : Bool} (hs : St h0 h (pts b 0 false [.slice p l c, .bool g] :: own 1 p l c (bcs bs) :: F)) (h1 : bs.length ≤ N) (h2 : Rst o bs g) : St h0 h (Ro b o N :: F) := (W.cl hs).impl fun m q => ⟨bs, g, ⟨h1, h2⟩, q⟩
theorem Ro.mono {M : Nat} (hs : St h0 h (Ro b o N :: F)) (h1 : N ≤ M) : St h0 h (Ro b o M :: F) := hs.impl fun m ⟨bs, sp, ⟨h2, h3⟩, q⟩ => ⟨bs, sp, ⟨by omega, h3⟩, q⟩
def Ded (h0 : Heap) (F : List HP) (b N : Nat) (o : OB) (v : Value) (h' : Heap) : Prop := v = unit ∧ St h0 h' (Ro b o N :: F)
theorem rst_app {o : OB} {bs x : Bytes} {g : Bool} (r : Rst o bs g) : Rst (app o (some x)) (bs ++ x) g := by
  cases o with
  | none => exact r
  | some y => obtain ⟨rfl, rfl⟩ : g = true ∧ bs = y := r; exact ⟨rfl, rfl⟩
/-- Bytes are appended. -/
theorem ro_append {x : Bytes} {q : Option Addr} {n : Nat} {e : TypeId} {zero : Array Value} {K : Heap → Prop} {p : Option Addr} {l c : Nat} {bs : Bytes} {g : Bool} (hs : St h0 h (pts b 0 false [.slice p l c, .bool g] :: own 1 p l c (bcs bs) :: F)) (hx : Rd h 1 q n (bcs x)) (hz : zero.size = 1)
    (h1 : bs.length ≤ N) (h2 : Rst o bs g) (hN : N ≤ 1000000000) (hl : x.length ≤ 1000000000)
    (hk : ∀ h', St h0 h' (Ro b (app o (some x)) (N + x.length) :: F) → K h') :
    appendP e 1 1 zero p l c q n h fun p6 l7 c8 h9 => storeP none h9 (Addr.mk b 0 none) (.slice p6 l7 c8) K := by
  have hbl := hs.up1.len.1
  have hxl := hx.1
  rw [bcs_length] at hbl hxl
  refine St.append hs.up1 hx (one_bcs x) hz (by omega) (by unfold maxLen; omega) fun p6 c8 h9 s _ => ?_
  rw [← bcs_append] at s
  exact s.up1.store0 (i := 0) (by simp) rfl fun h11 s => hk _ (Ro.cl s (by rw [List.length_append]; omega) (rst_app h2))
theorem rnum_ok (hs : St h0 h (Ro b o N :: F)) (n lo hi : Int) (k : Nat) (h1 : 0 ≤ lo) (h2 : hi < 18446744073709551616) (hk : k ≤ 8) (hN : N ≤ 900000000) : CallsH Tryz.prog n_ref18_Out_number #[ptr b, .int .i64 n, .int .i64 lo, .int .i64 hi, .int .i64 k] h (Ded h0 F b (N + k) (app o (encI k lo hi n))) := by
  refine C_ref18_Out_number (some (Addr.mk b 0 none)) n lo hi k ?_
  unfold F_ref18_Out_number encI
  obtain ⟨p, l, c, bs, g, g1, g2, st⟩ := Ro.op hs
  simp only [deref_some, add_mk, Nat.zero_add, Nat.add_zero]
  have bad : ∀ h', St h0 h' (pts b 0 false ([.slice p l c, .bool g].set 1 (.bool false)) :: own 1 p l c (bcs bs) :: F) → Ded h0 F b (N + k) (app o none) unit h' := fun h' s => ⟨rfl, by rw [app_none]; exact Ro.cl s (by omega) rfl⟩
  rw [br_decide]
  refine ⟨fun hlt => ?_, fun hlt => ?_⟩
  · rw [if_neg (by omega)]
    exact st.store0 (i := 1) (by simp) rfl fun h1 s => bad h1 s
  rw [br_decide]
  refine ⟨fun hgt => ?_, fun hgt => ?_⟩
  · rw [if_neg (by omega)]
    exact st.store0 (i := 1) (by simp) rfl fun h1 s => bad h1 s
  rw [if_pos (by omega)]
  have hw : IntKind.wrap .u64 n = ((n.toNat : Nat) : Int) := by rw [wrap_u64]; omega
  rw [hw]
  refine ⟨_, _, _, st.cell0 (i := 0) rfl, ?_⟩
  refine (rnumber_ok n.toNat k (by omega) hk).mono fun v h9 ⟨p10, l11, c12, hv, nw⟩ => ⟨nw.ext, _, _, _, hv, ?_⟩
  have st := st.join nw
  simp only [List.cons_append, List.nil_append] at st
  have hrd := rd_own st.at
  have st := st.dn2
  refine ro_append (N := N) st hrd rfl g1 g2 (by omega) (by rw [numB_length]; omega) fun h' s => ⟨rfl, ?_⟩
  rw [numB_length] at s
  exact s.up1.drop
theorem rtext_ok {c : Value} {x : Bytes} (hs : St h0 h (Ro b o N :: F)) (hx : TxtR h0 c x) (hN : N ≤ 900000000) (hl : x.length ≤ 100000) : CallsH Tryz.prog n_ref18_Out_text #[ptr b, c] h (Ded h0 F b (N + 2 + x.length) (app o (encT x))) := by
  obtain ⟨p, l, cap, rfl, hc, hb⟩ := hx
  refine C_ref18_Out_text (some (Addr.mk b 0 none)) p l cap ?_
  unfold F_ref18_Out_text
  have hbl := hb.1
  refine (rnum_ok hs l 0 64 2 (by omega) (by omega) (by omega) hN).mono fun v h1 ⟨hv, st⟩ => ⟨hv, ?_⟩
  simp only [deref_some, add_mk, Nat.zero_add]
  obtain ⟨p, q, c, bs, g, g1, g2, st⟩ := Ro.op st
  refine ⟨_, _, _, st.cell0 (i := 0) rfl, ?_⟩
  refine ro_append (N := N + 2) st (hb.2.ext st.ext) rfl g1 g2 (by omega) (by omega) fun h' s => ⟨rfl, ?_⟩
  have e : app (app o (encI 2 0 64 (l : Int))) (some x) = app o (encT x) := by
    unfold encI encT
    by_cases h : x.length ≤ 64
    · rw [if_pos (by omega), if_pos h, app_assoc, Int.toNat_natCast, hbl]; rfl
    · rw [if_neg (by omega), if_neg h, app_none, none_app]
  rw [e] at s
  exact s
theorem rhash_ok {cs : List Value} {x : Bytes} (hs : St h0 h (Ro b o N :: F)) (hx : HashR h0 cs x) (hN : N ≤ 900000000) : CallsH Tryz.prog n_ref18_Out_hash #[ptr b, .agg cs.toArray] h (Ded h0 F b (N + 32) (app o (encH x))) := by
  obtain ⟨hl, rfl⟩ := hx
  refine C_ref18_Out_hash (some (Addr.mk b 0 none)) (bcs x).toArray ?_
  unfold F_ref18_Out_hash encH
  rw [if_pos hl]
  obtain ⟨p, l, c, bs, g, g1, g2, st⟩ := Ro.op hs
  refine st.newBlk fun b0 h1 _ st _ => ?_
  simp only [deref_some, add_mk, Nat.zero_add]
  refine ⟨_, _, _, st.up1.cell0 (i := 0) rfl, sliceP_to (n := 32) (by omega) ?_⟩
  have hb := bs_part (i := 0) (n := 32) (x := x) st (by show _ ≤ (bcs x).length; rw [bcs_length]; omega) (by show List.take 32 (List.drop 0 (bcs x)) = bcs x; rw [List.drop_zero, List.take_of_length_le (by rw [bcs_length]; omega)])
  have st := st.dn2
  refine ro_append (N := N) st hb.2 rfl g1 g2 (by omega) (by omega) fun h' s => ⟨rfl, ?_⟩
  rw [hl] at s
  exact s.up1.drop
theorem rprefix_ok {cs : List Value} {p : Pf} (hs : St h0 h (Ro b o N :: F)) (hx : PfR h0 cs p) (hN : N ≤ 800000000) : CallsH Tryz.prog n_ref18_Out_prefix #[ptr b, .agg cs.toArray] h (Ded h0 F b (N + 34) (app o (encP p))) := by
  obtain ⟨hp, rfl⟩ := hx
  have hpl := pfC_length hp
  refine C_ref18_Out_prefix (some (Addr.mk b 0 none)) (pfC p).toArray ?_
  unfold F_ref18_Out_prefix
  refine hs.newBlk fun b0 h1 _ st _ => ?_
  simp only [deref_some, add_mk, Nat.zero_add]
  have hd : ((pfC p).drop 1).take 32 = bcs p.bits := by rw [show (pfC p).drop 1 = bcs p.bits from rfl, List.take_of_length_le (by rw [bcs_length, hp.1]; omega)]
  have tail : ∀ {h9 : Heap} {o1 : OB}, app o1 (app (encI 2 0 256 p.len) (encH p.bits)) = app o (encP p) → St h0 h9 (Ro b o1 N :: pts b0 0 false (pfC p) :: F) →
      ∃ n10, cell h9 (Addr.mk b0 0 none) = some (.int .i64 n10) ∧ CallsH Tryz.prog n_ref18_Out_number #[ptr b, .int .i64 n10, .int .i64 0, .int .i64 256, .int .i64 2] h9 fun v11 h12 => v11 = .tuple #[] ∧ ∃ cs13 : Array Value, row h12 (Addr.mk b0 1 none) 32 = some cs13 ∧
        CallsH Tryz.prog n_ref18_Out_hash #[ptr b, .agg cs13] h12 fun v14 h15 => v14 = .tuple #[] ∧ Ded h0 F b (N + 34) (app o (encP p)) (.tuple #[]) h15 := by
    intro h9 o1 he st
    refine ⟨_, st.up1.cell0 (i := 0) rfl, ?_⟩
    refine (rnum_ok st p.len 0 256 2 (by omega) (by omega) (by omega) (by omega)).mono fun v h12 ⟨hv, st⟩ => ⟨hv, _, st.up1.rowAt (i := 1) (n := 32) (by omega), ?_⟩
    refine (rhash_ok (x := p.bits) st ⟨hp.1, hd⟩ (by omega)).mono fun v h15 ⟨hv, st⟩ => ⟨hv, rfl, ?_⟩
    rw [app_assoc, he] at st
    exact Ro.mono st.up1.drop (by omega)
  obtain ⟨q, l, c, bs, g, g1, g2, st⟩ := Ro.op st.up1
  have hbits : encH p.bits = some p.bits := by unfold encH; rw [if_pos hp.1]
  refine ⟨g, st.cell0 (i := 1) rfl, ?_⟩
  rw [br_and]
  refine ⟨fun ht => ?_, fun ht => ?_⟩
  · refine ⟨_, st.up2.row0 hpl, ?_⟩
    refine (rformed_ok (l := p.len) (ks := p.bits) hp.1).mono fun v h6 ⟨hv, e⟩ => ⟨e, _, hv, ?_⟩
    have st := st.keep e
    refine st.store0 (i := 1) (by simp) rfl fun h9 st => ?_
    by_cases hf : Formed p.len p.bits
    · rw [decide_eq_true hf] at st
      obtain ⟨f0, f1, _⟩ := id hf
      refine tail (o1 := o) ?_ (Ro.cl st g1 (by rw [ht] at g2; exact g2))
      unfold encP encI
      rw [if_pos hf, if_pos (by omega)]
    · rw [decide_eq_false hf] at st
      refine tail (o1 := none) ?_ (Ro.cl st g1 rfl)
      unfold encP
      rw [if_neg hf, none_app, app_none]
  · have ho : o = none := by
      cases o with
      | none => rfl
      | some y => have : g = true ∧ bs = y := g2; rw [ht] at this; cases this.1
    refine st.store0 (i := 1) (by simp) rfl fun h9 st => ?_
    exact tail (o1 := none) (by rw [ho, none_app, none_app]) (Ro.cl st g1 rfl)
theorem encs_snoc {α : Type} (f : α → OB) (xs : List α) {j : Nat} (hj : j < xs.length) : encs f (xs.take (j + 1)) = app (encs f (xs.take j)) (f xs[j]) := by
  rw [List.take_succ_eq_append_getElem hj]
  generalize xs.take j = ys
  induction ys with
  | nil => rw [List.nil_append, encs, encs, encs, app_nil, nil_app]
  | cons y ys ih => rw [List.cons_append, encs, encs, ih, app_assoc]
theorem encI_count (n : Nat) : encI 2 0 4096 (n : Int) = if n ≤ 4096 then some (numB n 2) else none := by
  unfold encI
  by_cases h : n ≤ 4096
  · rw [if_pos h, if_pos (by omega), Int.toNat_natCast]
  · rw [if_neg h, if_neg (by omega)]
/-- A list is put, element by element. -/
theorem rlist_body {α : Type} {enc : α → OB} {sz k : Nat} {R : Rel α} {p : Option Addr} {l cap : Nat} {xs : List α} {B : Addr → Int → Heap → ((Heap → Prop) → Prop)} {fin : Heap → Prop}
    (he : ∀ {h6 : Heap} {o : OB} {M : Nat} {j : Nat} {bb oo : Nat} {cs : List Value} (hj : j < xs.length) {K : Heap → Prop}, p = some (Addr.mk bb oo none) → St h0 h6 (Ro b o M :: F) → row h0 (Addr.mk bb (oo + j * sz) none) sz = some cs.toArray → cs.length = sz → R h0 cs xs[j] → M ≤ 690000000 →
      (∀ h', St h0 h' (Ro b (app o (enc xs[j])) (M + k) :: F) → K h') → B (Addr.mk bb oo none) (j : Int) h6 K)
    (hz : 0 < sz) (hs : St h0 h (Ro b o N :: F)) (hx : LsR sz R h0 (.slice p l cap) xs) (hN : N + 2 + k * xs.length ≤ 690000000) (hxl : xs.length ≤ 5000)
    (hfin : ∀ h', St h0 h' (Ro b (app o (encL enc xs)) (N + 2 + k * xs.length) :: F) → fin h') :
    CallsH Tryz.prog n_ref18_Out_number #[ptr b, .int .i64 (l : Int), .int .i64 0, .int .i64 4096, .int .i64 2] h fun v0 h1 => v0 = .tuple #[] ∧ ∃ (I2 : Int → Heap → Prop), ∃ (μ3 : Int → Heap → Nat), I2 0 h1 ∧ ∀ n4 h5, I2 n4 h5 →
      br (decide (n4 < (l : Int))) (0 ≤ n4 ∧ n4 < (l : Int) ∧ deref p fun a6 => B a6 n4 h5 fun h9 => I2 (IntKind.wrap .i64 (n4 + 1)) h9 ∧ μ3 (IntKind.wrap .i64 (n4 + 1)) h9 < μ3 n4 h5) (fin h5) := by
  obtain ⟨q, m, c2, e, hc, hm, hget⟩ := hx.get hz
  cases e
  refine (rnum_ok hs l 0 4096 2 (by omega) (by omega) (by omega) (by omega)).mono fun v h1 ⟨hv, st⟩ => ⟨hv, ?_⟩
  rw [encI_count] at st
  rw [← hm] at st ⊢
  have hL : encL enc xs = app (if xs.length ≤ 4096 then some (numB xs.length 2) else none) (encs enc xs) := rfl
  generalize (if xs.length ≤ 4096 then some (numB xs.length 2) else none : OB) = cnt at *
  refine ⟨fun i h' => ∃ j : Nat, i = j ∧ j ≤ xs.length ∧ St h0 h' (Ro b (app (app o cnt) (encs enc (xs.take j))) (N + 2 + k * j) :: F), fun i _ => ((xs.length : Int) - i).toNat, ⟨0, rfl, Nat.zero_le _, by rw [List.take_zero, encs, app_nil]; exact st⟩, ?_⟩
  rintro i h6 ⟨j, rfl, hj, st⟩
  rw [br_decide]
  refine ⟨fun hlt => ⟨by omega, hlt, ?_⟩, fun hge => ?_⟩
  · have hjl : j < xs.length := by omega
    obtain ⟨bb, oo, cs, rfl, hrow, hcl, hco, hR⟩ := hget j hjl
    have hkj : k * (j + 1) = k * j + k := Nat.mul_succ k j
    have hkm : k * (j + 1) ≤ k * xs.length := Nat.mul_le_mul_left k (by omega)
    rw [deref_some]
    refine he hjl rfl st hrow hcl hR (by omega) fun h' s => ?_
    rw [wrap_i64 (by omega) (by omega)]
    refine ⟨⟨j + 1, by omega, by omega, ?_⟩, by show ((xs.length : Int) - ((j : Int) + 1)).toNat < ((xs.length : Int) - (j : Int)).toNat; omega⟩
    rw [encs_snoc enc xs hjl, hkj, ← app_assoc, ← Nat.add_assoc]
    exact s
  · obtain rfl : j = xs.length := by omega
    rw [List.take_length, app_assoc, ← hL] at st
    exact hfin _ st
theorem rhashes_ok {c : Value} {xs : List Bytes} (hs : St h0 h (Ro b o N :: F)) (hx : LsR 32 HashR h0 c xs) (hN : N ≤ 600000000) (hl : xs.length ≤ 5000) : CallsH Tryz.prog n_ref18_Out_hashes #[ptr b, c] h (Ded h0 F b (N + 2 + 32 * xs.length) (app o (encL encH xs))) := by
  obtain ⟨p, l, cap, rows, rfl, hr⟩ := id hx
  refine C_ref18_Out_hashes (some (Addr.mk b 0 none)) p l cap ?_
  unfold F_ref18_Out_hashes
  refine rlist_body (B := fun a6 n4 h5 K => ∃ cs7 : Array Value, row h5 (Addr.add a6 (Int.toNat n4 * 32)) 32 = some cs7 ∧ CallsH Tryz.prog n_ref18_Out_hash #[ptr b, .agg cs7] h5 fun v8 h9 => v8 = .tuple #[] ∧ K h9) ?_ (by omega) hs hx (by omega) hl fun h' s => ⟨rfl, s⟩
  intro h6 o M j bb oo cs hj K hp st hrow hcl hR hM hk
  rw [add_mk, Int.toNat_natCast]
  exact ⟨_, st.ext.row hrow, (rhash_ok st hR (by omega)).mono fun v h9 ⟨hv, s⟩ => ⟨hv, hk _ s⟩⟩
end
end Go.Proofs.YthlmiijlhiiccaaGreat
