/- Layer 18: what the reference puts, second part. -/
import Derived.Test.YthlmiijlhiiccaaGreatmf
set_option linter.unusedVariables false
set_option maxRecDepth 100000
namespace Go.Proofs.YthlmiijlhiiccaaGreat
open Go Go.Vc Go.Proofs Go.Vc.Keys
theorem row_cells {h : Heap} {b o n : Nat} {cs : List Value} (hr : row h (Addr.mk b o none) n = some cs.toArray) (hl : cs.length = n) {i : Nat} {v : Value} (e : cs[i]? = some v) : cell h (Addr.mk b (o + i) none) = some v := by
  obtain ⟨hi, rfl⟩ := List.getElem?_eq_some_iff.1 e
  have hrd : Rd h 1 (some (Addr.mk b o none)) n cs := ⟨by omega, by simp only [src, Nat.mul_one]; exact hr⟩
  obtain ⟨a, e, hc⟩ := hrd.cell hi
  cases e
  rwa [add_mk] at hc
theorem row_part {h : Heap} {b o n : Nat} {cs : List Value} (hr : row h (Addr.mk b o none) n = some cs.toArray) (hl : cs.length = n) {i k : Nat} (hk : i + k ≤ n) : row h (Addr.mk b (o + i) none) k = some ((cs.drop i).take k).toArray := by
  have hlen : ((cs.drop i).take k).length = k := by rw [List.length_take, List.length_drop]; omega
  have := row_of (h := h) (a := Addr.mk b (o + i) none) ((cs.drop i).take k) fun j hj => by
    rw [add_mk, Nat.add_assoc]
    refine row_cells hr hl ?_
    rw [List.getElem_take, List.getElem_drop]
    exact List.getElem?_eq_getElem _
  rw [hlen] at this
  exact this
theorem stp_parts {s : Stp} (hp : PfOk s.p) (ho : s.other.length = 32) : ((pfC s.p ++ bcs s.other).drop 0).take 33 = pfC s.p ∧ ((pfC s.p ++ bcs s.other).drop 33).take 32 = bcs s.other := by
  have hpl := pfC_length hp
  exact ⟨by rw [List.drop_zero, List.take_append_of_le_length (by omega), List.take_of_length_le (by omega)],
    by rw [List.drop_append, List.drop_of_length_le (by omega), hpl, Nat.sub_self, List.nil_append, List.drop_zero, List.take_of_length_le (by rw [bcs_length]; omega)]⟩
section
variable {h0 h : Heap} {F : List HP} {b N : Nat} {o : OB}
theorem rtrail_ok {cs : List Value} {t : Trl} (hs : St h0 h (Ro b o N :: F)) (hx : TrR h0 cs t) (hN : N ≤ 500000000) (hl : t.ahead.length ≤ 5000 ∧ t.behind.length ≤ 5000) : CallsH Tryz.prog n_ref18_Out_trail #[ptr b, .agg cs.toArray] h (Ded h0 F b (N + 400000) (app o (encTr t))) := by
  obtain ⟨c, d, rfl, h1, h2⟩ := hx
  refine C_ref18_Out_trail (some (Addr.mk b 0 none)) [c, d].toArray ?_
  unfold F_ref18_Out_trail encTr
  refine hs.newBlk fun b0 h1' _ st _ => ?_
  simp only [add_mk, Nat.zero_add]
  obtain ⟨p, l, cap, rows, rfl, hr⟩ := id h1
  obtain ⟨p2, l2, cap2, rows2, rfl, hr2⟩ := id h2
  refine ⟨_, _, _, st.cell0 (i := 0) rfl, ?_⟩
  refine (rhashes_ok st.up1 h1 (by omega) hl.1).mono fun _ h6 ⟨hv, st⟩ => ⟨hv, _, _, _, st.up1.cell0 (i := 1) rfl, ?_⟩
  refine (rhashes_ok st h2 (by omega) hl.2).mono fun _ h6 ⟨hv, st⟩ => ⟨hv, rfl, ?_⟩
  rw [app_assoc] at st
  exact Ro.mono st.up1.drop (by omega)
theorem rversion_ok {cs : List Value} {v : Vr} (hs : St h0 h (Ro b o N :: F)) (hx : VrR h0 cs v) (hN : N ≤ 700000000) (hv64 : v.value.length ≤ 20000) : CallsH Tryz.prog n_ref18_Out_version #[ptr b, .agg cs.toArray] h (Ded h0 F b (N + 20080) (app o (encV v))) := by
  refine C_ref18_Out_version (some (Addr.mk b 0 none)) cs.toArray ?_
  unfold F_ref18_Out_version encV
  refine hs.newBlk fun b0 h1 _ st _ => ?_
  simp only [add_mk, Nat.zero_add]
  have hlen := hx.len
  obtain ⟨c, hc, hT⟩ := hx.value
  refine ⟨_, st.cell0 (i := 0) hx.num, ?_⟩
  refine (rnum_ok st.up1 v.num 0 2147483647 4 (by omega) (by omega) (by omega) (by omega)).mono fun _ h4 ⟨hv, st⟩ => ⟨hv, _, st.up1.cell0 (i := 1) hx.ep, ?_⟩
  refine (rnum_ok st v.ep 0 2147483647 4 (by omega) (by omega) (by omega) (by omega)).mono fun _ h7 ⟨hv, st⟩ => ⟨hv, _, st.up1.rowAt (i := 2) (n := 32) (by show _ ≤ cs.length; omega), ?_⟩
  refine (rhash_ok (x := v.salt) st ⟨hx.lens.1, hx.salt⟩ (by omega)).mono fun _ h10 ⟨hv, st⟩ => ⟨hv, _, st.up1.rowAt (i := 34) (n := 32) (by show _ ≤ cs.length; omega), ?_⟩
  refine (rhash_ok (x := v.before) st ⟨hx.lens.2, hx.before⟩ (by omega)).mono fun _ h13 ⟨hv, st⟩ => ⟨hv, ?_⟩
  obtain ⟨p, l, cap, rfl, hT'⟩ := id hT
  refine ⟨_, _, _, st.up1.cell0 (i := 66) hc, ?_⟩
  refine (rtext_ok st hT (by omega) (by omega)).mono fun _ h18 ⟨hv, st⟩ => ⟨hv, rfl, ?_⟩
  simp only [app_assoc] at st ⊢
  exact Ro.mono st.up1.drop (by omega)
theorem rchain_ok {c : Value} {xs : List Vr} (hs : St h0 h (Ro b o N :: F)) (hx : LsR 67 VrR h0 c xs) (hN : N ≤ 500000000) (hl : xs.length ≤ 5000) (hv : ∀ x ∈ xs, x.value.length ≤ 20000) : CallsH Tryz.prog n_ref18_Out_chain #[ptr b, c] h (Ded h0 F b (N + 2 + 20080 * xs.length) (app o (encL encV xs))) := by
  obtain ⟨p, l, cap, rows, rfl, hr⟩ := id hx
  refine C_ref18_Out_chain (some (Addr.mk b 0 none)) p l cap ?_
  unfold F_ref18_Out_chain
  refine rlist_body (k := 20080) (B := fun a6 n4 h5 K => ∃ cs7 : Array Value, row h5 (Addr.add a6 (Int.toNat n4 * 67)) 67 = some cs7 ∧ CallsH Tryz.prog n_ref18_Out_version #[ptr b, .agg cs7] h5 fun v8 h9 => v8 = .tuple #[] ∧ K h9) ?_ (by omega) hs hx (by omega) hl fun h' s => ⟨rfl, s⟩
  intro h6 o M j bb oo cs hj K hp st hrow hcl hR hM hk
  rw [add_mk, Int.toNat_natCast]
  exact ⟨_, st.ext.row hrow, (rversion_ok st hR (by omega) (hv _ (List.getElem_mem hj))).mono fun v h9 ⟨hv, s⟩ => ⟨hv, hk _ s⟩⟩
theorem rrows_ok {c : Value} {xs : List Rw} (hs : St h0 h (Ro b o N :: F)) (hx : LsR 162 RwR h0 c xs) (hN : N ≤ 500000000) (hl : xs.length ≤ 5000) : CallsH Tryz.prog n_ref18_Out_rows #[ptr b, c] h (Ded h0 F b (N + 2 + 99 * xs.length) (app o (encL encR xs))) := by
  obtain ⟨p, l, cap, rows, rfl, hr⟩ := id hx
  refine C_ref18_Out_rows (some (Addr.mk b 0 none)) p l cap ?_
  unfold F_ref18_Out_rows
  refine rlist_body (k := 99) (B := fun a6 n4 h5 K => ∃ t7, cell h5 (Addr.add (Addr.add a6 (Int.toNat n4 * 162)) 0) = some (.bool t7) ∧ br t7
      (CallsH Tryz.prog n_ref18_Out_number #[ptr b, .int .i64 1, .int .i64 0, .int .i64 1, .int .i64 1] h5 fun v8 h9 => v8 = .tuple #[] ∧ 0 ≤ n4 ∧ n4 < (l : Int) ∧ deref p fun a10 => ∃ cs11 : Array Value, row h9 (Addr.add (Addr.add a10 (Int.toNat n4 * 162)) 1) 32 = some cs11 ∧
        CallsH Tryz.prog n_ref18_Out_hash #[ptr b, .agg cs11] h9 fun v12 h13 => v12 = .tuple #[] ∧ 0 ≤ n4 ∧ n4 < (l : Int) ∧ deref p fun a14 => ∃ cs15 : Array Value, row h13 (Addr.add (Addr.add a14 (Int.toNat n4 * 162)) 33) 32 = some cs15 ∧
          CallsH Tryz.prog n_ref18_Out_hash #[ptr b, .agg cs15] h13 fun v16 h17 => v16 = .tuple #[] ∧ K h17)
      (CallsH Tryz.prog n_ref18_Out_number #[ptr b, .int .i64 0, .int .i64 0, .int .i64 1, .int .i64 1] h5 fun v18 h19 => v18 = .tuple #[] ∧ 0 ≤ n4 ∧ n4 < (l : Int) ∧ deref p fun a20 => ∃ cs21 : Array Value, row h19 (Addr.add (Addr.add a20 (Int.toNat n4 * 162)) 65) 33 = some cs21 ∧
        CallsH Tryz.prog n_ref18_Out_prefix #[ptr b, .agg cs21] h19 fun v22 h23 => v22 = .tuple #[] ∧ 0 ≤ n4 ∧ n4 < (l : Int) ∧ deref p fun a24 => ∃ cs25 : Array Value, row h23 (Addr.add (Addr.add a24 (Int.toNat n4 * 162)) 98) 32 = some cs25 ∧
          CallsH Tryz.prog n_ref18_Out_hash #[ptr b, .agg cs25] h23 fun v26 h27 => v26 = .tuple #[] ∧ 0 ≤ n4 ∧ n4 < (l : Int) ∧ deref p fun a28 => ∃ cs29 : Array Value, row h27 (Addr.add (Addr.add a28 (Int.toNat n4 * 162)) 130) 32 = some cs29 ∧
            CallsH Tryz.prog n_ref18_Out_hash #[ptr b, .agg cs29] h27 fun v30 h31 => v30 = .tuple #[] ∧ K h31)) ?_ (by omega) hs hx (by omega) hl fun h' s => ⟨rfl, s⟩
  intro h6 o M j bb oo cs hj K hp st hrow hcl hR hM hk
  have hxl : xs.length = l := by obtain ⟨p', l', c', e, _, hm, _⟩ := hx.get (by omega); cases e; exact hm
  subst hp
  obtain ⟨r1, r2, r3, r4, r5, e⟩ := hR
  obtain ⟨p0, p1, p2, p3, p4, p5, p6⟩ := rw_parts r1 r2 r3 r4 r5 e
  clear e
  simp only [deref_some, add_mk, Int.toNat_natCast]
  refine ⟨_, st.ext.cell (row_cells hrow hcl p1), ?_⟩
  have e1 : encI 1 0 1 1 = some (numB 1 1) := by decide
  have e0 : encI 1 0 1 0 = some (numB 0 1) := by decide
  unfold encR at hk
  rw [br_and]
  refine ⟨fun ht => ?_, fun ht => ?_⟩
  · rw [ht, if_pos rfl] at hk
    have hn := rnum_ok st 1 0 1 1 (by omega) (by omega) (by omega) (by omega)
    rw [e1] at hn
    refine hn.mono fun _ h9 ⟨hv, st⟩ => ⟨hv, by omega, by omega, _, st.ext.row (row_part hrow hcl (i := 1) (k := 32) (by omega)), ?_⟩
    refine (rhash_ok (x := xs[j].key) st ⟨r1, p2⟩ (by omega)).mono fun _ h13 ⟨hv, st⟩ => ⟨hv, by omega, by omega, _, st.ext.row (row_part hrow hcl (i := 33) (k := 32) (by omega)), ?_⟩
    refine (rhash_ok (x := xs[j].value) st ⟨r2, p3⟩ (by omega)).mono fun _ h17 ⟨hv, st⟩ => ⟨hv, hk _ ?_⟩
    simp only [app_assoc] at st ⊢
    exact Ro.mono st (by omega)
  · rw [ht, if_neg (by simp)] at hk
    have hn := rnum_ok st 0 0 1 1 (by omega) (by omega) (by omega) (by omega)
    rw [e0] at hn
    refine hn.mono fun _ h9 ⟨hv, st⟩ => ⟨hv, by omega, by omega, _, st.ext.row (row_part hrow hcl (i := 65) (k := 33) (by omega)), ?_⟩
    refine (rprefix_ok (p := xs[j].p) st ⟨r3, p4⟩ (by omega)).mono fun _ h13 ⟨hv, st⟩ => ⟨hv, by omega, by omega, _, st.ext.row (row_part hrow hcl (i := 98) (k := 32) (by omega)), ?_⟩
    refine (rhash_ok (x := xs[j].left) st ⟨r4, p5⟩ (by omega)).mono fun _ h17 ⟨hv, st⟩ => ⟨hv, by omega, by omega, _, st.ext.row (row_part hrow hcl (i := 130) (k := 32) (by omega)), ?_⟩
    refine (rhash_ok (x := xs[j].right) st ⟨r5, p6⟩ (by omega)).mono fun _ h17 ⟨hv, st⟩ => ⟨hv, hk _ ?_⟩
    simp only [app_assoc] at st ⊢
    exact Ro.mono st (by omega)
theorem rnews_ok {c : Value} {xs : List Nw} (hs : St h0 h (Ro b o N :: F)) (hx : LsR 68 NwR h0 c xs) (hN : N ≤ 400000000) (hl : xs.length ≤ 5000) (hv : ∀ x ∈ xs, x.label.length ≤ 20000 ∧ x.v.value.length ≤ 20000) : CallsH Tryz.prog n_ref18_Out_news #[ptr b, c] h (Ded h0 F b (N + 2 + 40100 * xs.length) (app o (encL encW xs))) := by
  obtain ⟨p, l, cap, rows, rfl, hr⟩ := id hx
  refine C_ref18_Out_news (some (Addr.mk b 0 none)) p l cap ?_
  unfold F_ref18_Out_news
  refine rlist_body (k := 40100) (B := fun a6 n4 h5 K => ∃ p7 l8 c9, cell h5 (Addr.add (Addr.add a6 (Int.toNat n4 * 68)) 0) = some (.slice p7 l8 c9) ∧ CallsH Tryz.prog n_ref18_Out_text #[ptr b, .slice p7 l8 c9] h5 fun v10 h11 => v10 = .tuple #[] ∧ 0 ≤ n4 ∧ n4 < (l : Int) ∧
    deref p fun a12 => ∃ cs13 : Array Value, row h11 (Addr.add (Addr.add a12 (Int.toNat n4 * 68)) 1) 67 = some cs13 ∧ CallsH Tryz.prog n_ref18_Out_version #[ptr b, .agg cs13] h11 fun v14 h15 => v14 = .tuple #[] ∧ K h15) ?_ (by omega) hs hx (by omega) hl fun h' s => ⟨rfl, s⟩
  intro h6 o M j bb oo cs hj K hp st hrow hcl hR hM hk
  have hxl : xs.length = l := by obtain ⟨p', l', c', e, _, hm, _⟩ := hx.get (by omega); cases e; exact hm
  subst hp
  obtain ⟨v1, v2⟩ := hv _ (List.getElem_mem hj)
  obtain ⟨c1, vs, rfl, hT, hV⟩ := hR
  have hvl := hV.len
  obtain ⟨q, ql, qc, rfl, hT'⟩ := id hT
  simp only [deref_some, add_mk, Int.toNat_natCast]
  refine ⟨_, _, _, st.ext.cell (row_cells hrow hcl (i := 0) rfl), ?_⟩
  have e : ((Value.slice q ql qc :: vs).drop 1).take 67 = vs := by rw [show (Value.slice q ql qc :: vs).drop 1 = vs from rfl, List.take_of_length_le (by omega)]
  refine (rtext_ok st hT (by omega) (by omega)).mono fun _ h11 ⟨hv, st⟩ => ⟨hv, by omega, by omega, _, st.ext.row (row_part hrow hcl (i := 1) (k := 67) (by omega)), ?_⟩
  refine (rversion_ok (v := xs[j].v) (cs := ((Value.slice q ql qc :: vs).drop 1).take 67) st (by rw [e]; exact hV) (by omega) v2).mono fun _ h15 ⟨hv, st⟩ => ⟨hv, hk _ ?_⟩
  unfold encW
  simp only [app_assoc] at st ⊢
  exact Ro.mono st (by omega)
theorem rproof_ok {cs : List Value} {p : Prf} (hs : St h0 h (Ro b o N :: F)) (hx : PrR h0 cs p) (hN : N ≤ 500000000) (hl : p.steps.length ≤ 5000) : CallsH Tryz.prog n_ref18_Out_proof #[ptr b, .agg cs.toArray] h (Ded h0 F b (N + 400000) (app o (encPr p))) := by
  have hlen := hx.len
  obtain ⟨c, hc, hL⟩ := hx.steps
  obtain ⟨l1, l2, l3, l4, l5⟩ := hx.lens
  refine C_ref18_Out_proof (some (Addr.mk b 0 none)) cs.toArray ?_
  unfold F_ref18_Out_proof
  refine hs.newBlk fun b0 h1 _ st _ => ?_
  simp only [add_mk, Nat.zero_add]
  obtain ⟨q, l, cap, rows, rfl, hr⟩ := id hL
  obtain ⟨q', l', cap', e', _, hm, hget⟩ := hL.get (by omega)
  cases e'
  refine ⟨_, _, _, st.cell0 (i := 0) hc, ?_⟩
  refine (rnum_ok st.up1 l 0 4096 2 (by omega) (by omega) (by omega) (by omega)).mono fun v h6 ⟨hv, st⟩ => ⟨hv, ?_⟩
  rw [encI_count, ← hm] at st
  have hLe : encL encS p.steps = app (if p.steps.length ≤ 4096 then some (numB p.steps.length 2) else none) (encs encS p.steps) := rfl
  generalize (if p.steps.length ≤ 4096 then some (numB p.steps.length 2) else none : OB) = cnt at *
  refine ⟨fun i h' => ∃ j : Nat, i = j ∧ j ≤ p.steps.length ∧ St h0 h' (Ro b (app (app o cnt) (encs encS (p.steps.take j))) (N + 2 + 66 * j) :: pts b0 0 false cs :: F), fun i _ => ((p.steps.length : Int) - i).toNat, ⟨0, rfl, Nat.zero_le _, by rw [List.take_zero, encs, app_nil]; exact st⟩, ?_⟩
  rintro i h10 ⟨j, rfl, hj, st⟩
  refine ⟨_, _, _, st.up1.cell0 (i := 0) hc, ?_⟩
  rw [br_decide]
  refine ⟨fun hlt => ⟨_, _, _, st.up1.cell0 (i := 0) hc, by omega, hlt, ?_⟩, fun hge => ?_⟩
  · have hjl : j < p.steps.length := by omega
    obtain ⟨bb, oo, cs', rfl, hrow, hcl, hco, hR⟩ := hget j hjl
    obtain ⟨s1, s2, rfl⟩ := hR
    obtain ⟨e1, e2⟩ := stp_parts s1 s2
    simp only [deref_some, add_mk, Int.toNat_natCast]
    refine ⟨_, st.ext.row (row_part hrow hcl (i := 0) (k := 33) (by omega)), ?_⟩
    refine (rprefix_ok (p := p.steps[j].p) st ⟨s1, e1⟩ (by omega)).mono fun _ h20 ⟨hv, st⟩ => ⟨hv, _, _, _, st.up1.cell0 (i := 0) hc, by omega, hlt, ?_⟩
    simp only [deref_some, add_mk, Int.toNat_natCast]
    refine ⟨_, st.ext.row (row_part hrow hcl (i := 33) (k := 32) (by omega)), ?_⟩
    refine (rhash_ok (x := p.steps[j].other) st ⟨s2, e2⟩ (by omega)).mono fun _ h27 ⟨hv, st⟩ => ⟨hv, ?_⟩
    rw [wrap_i64 (by omega) (by omega)]
    refine ⟨⟨j + 1, by omega, by omega, ?_⟩, by show ((p.steps.length : Int) - ((j : Int) + 1)).toNat < ((p.steps.length : Int) - (j : Int)).toNat; omega⟩
    rw [encs_snoc encS p.steps hjl, encS]
    simp only [app_assoc] at st ⊢
    exact Ro.mono st (by omega)
  · obtain rfl : j = p.steps.length := by omega
    rw [List.take_length, app_assoc, ← hLe] at st
    unfold encPr
    rw [← app_assoc]
    have hN2 : N + 2 + 66 * p.steps.length ≤ N + 340000 := by omega
    have st := Ro.mono st hN2
    generalize app o (encL encS p.steps) = o1 at *
    refine ⟨_, st.up1.cell0 (i := 1) hx.en, ?_⟩
    refine (rnum_ok st p.en 0 2 1 (by omega) (by omega) (by omega) (by omega)).mono fun _ h30 ⟨hv, st⟩ => ⟨hv, ?_⟩
    have en : ∀ k : Int, p.en = k → 0 ≤ k → k ≤ 2 → encI 1 0 2 p.en = some (numB k.toNat 1) := fun k h1 h2 h3 => by unfold encI; rw [if_pos (by omega), h1]
    refine ⟨fun _ h' => St h0 h' (Ro b (app o1 (app (encI 1 0 2 p.en) (if p.en = 1 then app (encH p.key) (encH p.value) else some []))) (N + 340100) :: pts b0 0 false cs :: F), ⟨_, st.up1.cell0 (i := 1) hx.en, ?_⟩, ?_⟩
    · rw [br_beq]
      refine ⟨fun h1' => ⟨_, st.up1.rowAt (i := 2) (n := 32) (by omega), ?_⟩, fun h1' => by rw [if_neg h1', app_nil]; exact Ro.mono st (by omega)⟩
      refine (rhash_ok (x := p.key) st ⟨l1, hx.key⟩ (by omega)).mono fun _ h9 ⟨hv, st⟩ => ⟨hv, _, st.up1.rowAt (i := 34) (n := 32) (by omega), ?_⟩
      refine (rhash_ok (x := p.value) st ⟨l2, hx.value⟩ (by omega)).mono fun _ h12 ⟨hv, st⟩ => ⟨hv, ?_⟩
      rw [if_pos h1']
      simp only [app_assoc] at st ⊢
      exact Ro.mono st (by omega)
    clear st
    rintro _ h40 st
    refine ⟨_, st.up1.cell0 (i := 1) hx.en, ?_⟩
    rw [br_beq]
    refine ⟨fun h2' => ⟨_, st.up1.rowAt (i := 66) (n := 33) (by omega), ?_⟩, fun h2' => ⟨rfl, ?_⟩⟩
    · rw [if_neg (by omega), app_nil, en 2 h2' (by omega) (by omega)] at st
      rw [if_neg (by omega), if_neg (by omega), if_pos h2']
      refine (rprefix_ok (p := p.p) st ⟨l3, hx.p⟩ (by omega)).mono fun _ h9 ⟨hv, st⟩ => ⟨hv, _, st.up1.rowAt (i := 99) (n := 32) (by omega), ?_⟩
      refine (rhash_ok (x := p.left) st ⟨l4, hx.left⟩ (by omega)).mono fun _ h9 ⟨hv, st⟩ => ⟨hv, _, st.up1.rowAt (i := 131) (n := 32) (by omega), ?_⟩
      refine (rhash_ok (x := p.right) st ⟨l5, hx.right⟩ (by omega)).mono fun _ h12 ⟨hv, st⟩ => ⟨hv, rfl, ?_⟩
      simp only [app_assoc] at st ⊢
      exact Ro.mono st.up1.drop (by omega)
    · have e : app o1 (app (encI 1 0 2 p.en) (if p.en = 1 then app (encH p.key) (encH p.value) else some [])) = app o1 (if p.en = 0 then some (numB 0 1) else if p.en = 1 then app (some (numB 1 1)) (app (encH p.key) (encH p.value)) else if p.en = 2 then app (some (numB 2 1)) (app (encP p.p) (app (encH p.left) (encH p.right))) else none) := by
        by_cases c0 : p.en = 0
        · rw [if_pos c0, if_neg (by omega), en 0 c0 (by omega) (by omega), app_nil]; rfl
        rw [if_neg c0]
        by_cases c1 : p.en = 1
        · rw [if_pos c1, if_pos c1, en 1 c1 (by omega) (by omega)]; rfl
        rw [if_neg c1, if_neg c1, if_neg h2']
        have : encI 1 0 2 p.en = none := by unfold encI; rw [if_neg (by omega)]
        rw [this, none_app]
      rw [e] at st
      exact Ro.mono st.up1.drop (by omega)
end
end Go.Proofs.YthlmiijlhiiccaaGreat
