/- Layer 18: what the encoder puts, second part. -/
import Derived.Test.YthlmiijlhiiccaaGreatmb
set_option linter.unusedVariables false
set_option maxRecDepth 100000
namespace Go.Proofs.YthlmiijlhiiccaaGreat
open Go Go.Vc Go.Proofs Go.Vc.Keys
theorem pfC_length {p : Pf} (h : PfOk p) : (pfC p).length = 33 := by simp [pfC, bcs_length, h.1]
def PfR : Rel Pf := fun _ cs p => PfOk p ∧ cs = pfC p
section
variable {h0 h : Heap} {F : List HP} {b N : Nat} {o : OB}
theorem Did.to {M : Nat} {o' : OB} {v : Value} {h' : Heap} (d : Did h0 F b N o v h') (h1 : N ≤ M) (h2 : o = o') : v = unit ∧ Did h0 F b M o' unit h' := ⟨d.1, rfl, by rw [← h2]; exact (d.mono h1).2⟩
theorem eprefix_ok {cs : List Value} {p : Pf} (hs : St h0 h (Wo b o N :: F)) (hx : PfR h0 cs p) (hN : N ≤ 1000000000 - 100) : CallsH Tryz.prog n_message_encoder_prefix #[ptr b, .agg cs.toArray] h (Did h0 F b (N + 34) (app o (encP p))) := by
  obtain ⟨hp, rfl⟩ := hx
  have hpl := pfC_length hp
  refine C_message_encoder_prefix (some (Addr.mk b 0 none)) (pfC p).toArray ?_
  unfold F_message_encoder_prefix encP
  refine hs.newBlk fun b0 h1 _ st _ => ?_
  refine ⟨_, st.row0 hpl, ?_⟩
  refine (formed_ok (l := p.len) (ks := p.bits) hp.2 hp.1).mono fun v h4 ⟨hv, e⟩ => ⟨e, _, hv, ?_⟩
  have st := st.keep e
  rw [br_not, br_and]
  refine ⟨fun ht => ?_, fun ht => ?_⟩
  · have hf := of_decide_eq_true ht
    rw [if_pos hf]
    obtain ⟨f0, f1, _⟩ := id hf
    simp only [deref_some, add_mk, Nat.zero_add]
    refine ⟨_, st.cell0 (i := 0) rfl, ?_⟩
    have hu := ou16_ok st.up1 p.len (by omega)
    have he : encI 2 0 65535 p.len = some (numB p.len.toNat 2) := by unfold encI; rw [if_pos (by omega)]
    rw [he] at hu
    refine hu.mono fun v h11 ⟨hv, st⟩ => ⟨hv, ?_⟩
    refine ⟨_, st.up1.rowAt (i := 1) (n := 32) (by show 1 + 32 ≤ (pfC p).length; omega), ?_⟩
    have hd : ((pfC p).drop 1).take 32 = bcs p.bits := by
      rw [show (pfC p).drop 1 = bcs p.bits from rfl, List.take_of_length_le (by rw [bcs_length, hp.1]; omega)]
    have hh := ehash_ok (cs := ((pfC p).drop 1).take 32) (x := p.bits) st ⟨hp.1, hd⟩ (by omega)
    refine hh.mono fun v h14 ⟨hv, st⟩ => ⟨hv, rfl, ?_⟩
    rw [app_assoc] at st
    exact Wo.mono st.up1.drop (by omega)
  · have hf := of_decide_eq_false ht
    rw [if_neg hf, app_none]
    exact (espoil_ok st.up1 (by omega)).mono fun v h7 ⟨hv, st⟩ => ⟨hv, rfl, Wo.mono st.up1.drop (by omega)⟩
theorem estep_ok {cs : List Value} {s : Stp} (hs : St h0 h (Wo b o N :: F)) (hx : StpR h0 cs s) (hN : N ≤ 1000000000 - 200) : CallsH Tryz.prog n_message_encoder_step #[ptr b, .agg cs.toArray] h (Did h0 F b (N + 66) (app o (encS s))) := by
  obtain ⟨hp, ho, rfl⟩ := hx
  have hpl := pfC_length hp
  refine C_message_encoder_step (some (Addr.mk b 0 none)) (pfC s.p ++ bcs s.other).toArray ?_
  unfold F_message_encoder_step encS
  refine hs.newBlk fun b0 h1 _ st _ => ?_
  simp only [add_mk, Nat.zero_add]
  have hlen : (pfC s.p ++ bcs s.other).length = 65 := by rw [List.length_append, hpl, bcs_length, ho]
  have e1 : ((pfC s.p ++ bcs s.other).drop 0).take 33 = pfC s.p := by rw [List.drop_zero, List.take_append_of_le_length (by omega), List.take_of_length_le (by omega)]
  have e2 : ((pfC s.p ++ bcs s.other).drop 33).take 32 = bcs s.other := by rw [List.drop_append, List.drop_of_length_le (by omega), hpl, Nat.sub_self, List.nil_append, List.drop_zero, List.take_of_length_le (by rw [bcs_length]; omega)]
  refine ⟨_, st.rowAt (i := 0) (n := 33) (by show 0 + 33 ≤ (pfC s.p ++ bcs s.other).length; omega), ?_⟩
  refine (eprefix_ok (p := s.p) st.up1 ⟨hp, e1⟩ (by omega)).mono fun v h4 ⟨hv, st⟩ => ⟨hv, _, st.up1.rowAt (i := 33) (n := 32) (by show 33 + 32 ≤ (pfC s.p ++ bcs s.other).length; omega), ?_⟩
  refine (ehash_ok (x := s.other) st ⟨ho, e2⟩ (by omega)).mono fun v h7 ⟨hv, st⟩ => ⟨hv, rfl, ?_⟩
  rw [app_assoc] at st
  exact Wo.mono st.up1.drop (by omega)
theorem eversion_ok {cs : List Value} {v : Vr} (hs : St h0 h (Wo b o N :: F)) (hx : VrR h0 cs v) (hN : N ≤ 1000000000 - 300) : CallsH Tryz.prog n_message_encoder_version #[ptr b, .agg cs.toArray] h (Did h0 F b (N + 138) (app o (encV v))) := by
  refine C_message_encoder_version (some (Addr.mk b 0 none)) cs.toArray ?_
  unfold F_message_encoder_version encV
  refine hs.newBlk fun b0 h1 _ st _ => ?_
  simp only [add_mk, Nat.zero_add]
  have hlen := hx.len
  obtain ⟨c, hc, hT⟩ := hx.value
  refine ⟨_, st.cell0 (i := 0) hx.num, ?_⟩
  refine (enumber_ok st.up1 v.num (by omega)).mono fun _ h4 ⟨hv, st⟩ => ⟨hv, _, st.up1.cell0 (i := 1) hx.ep, ?_⟩
  refine (enumber_ok st v.ep (by omega)).mono fun _ h7 ⟨hv, st⟩ => ⟨hv, _, st.up1.rowAt (i := 2) (n := 32) (by show _ ≤ cs.length; omega), ?_⟩
  refine (ehash_ok (x := v.salt) st ⟨hx.lens.1, hx.salt⟩ (by omega)).mono fun _ h10 ⟨hv, st⟩ => ⟨hv, _, st.up1.rowAt (i := 34) (n := 32) (by show _ ≤ cs.length; omega), ?_⟩
  refine (ehash_ok (x := v.before) st ⟨hx.lens.2, hx.before⟩ (by omega)).mono fun _ h13 ⟨hv, st⟩ => ⟨hv, ?_⟩
  obtain ⟨p, l, cap, rfl, hT'⟩ := id hT
  refine ⟨_, _, _, st.up1.cell0 (i := 66) hc, ?_⟩
  refine (etext_ok st hT (by omega)).mono fun _ h18 ⟨hv, st⟩ => ⟨hv, rfl, ?_⟩
  simp only [app_assoc] at st ⊢
  exact Wo.mono st.up1.drop (by omega)
theorem rw_parts {r : Rw} (h1 : r.key.length = 32) (h2 : r.value.length = 32) (h3 : PfOk r.p) (h4 : r.left.length = 32) (h5 : r.right.length = 32) {cs : List Value} (e : cs = .bool r.leaf :: (bcs r.key ++ (bcs r.value ++ (pfC r.p ++ (bcs r.left ++ bcs r.right))))) :
    cs.length = 162 ∧ cs[0]? = some (.bool r.leaf) ∧ (cs.drop 1).take 32 = bcs r.key ∧ (cs.drop 33).take 32 = bcs r.value ∧ (cs.drop 65).take 33 = pfC r.p ∧ (cs.drop 98).take 32 = bcs r.left ∧ (cs.drop 130).take 32 = bcs r.right := by
  have k1 : (bcs r.key).length = 32 := by rw [bcs_length, h1]
  have k2 : (bcs r.value).length = 32 := by rw [bcs_length, h2]
  have k3 := pfC_length h3
  have k4 : (bcs r.left).length = 32 := by rw [bcs_length, h4]
  have k5 : (bcs r.right).length = 32 := by rw [bcs_length, h5]
  have d : ∀ (a b : List Value) (n : Nat), a.length = n → (a ++ b).drop n = b := fun a b n h => by rw [List.drop_append, List.drop_of_length_le (by omega), h, Nat.sub_self]; rfl
  have t : ∀ (a b : List Value) (n : Nat), a.length = n → (a ++ b).take n = a := fun a b n h => by rw [List.take_append_of_le_length (by omega), List.take_of_length_le (by omega)]
  subst e
  have e1 : (Value.bool r.leaf :: (bcs r.key ++ (bcs r.value ++ (pfC r.p ++ (bcs r.left ++ bcs r.right))))).drop 1 = bcs r.key ++ (bcs r.value ++ (pfC r.p ++ (bcs r.left ++ bcs r.right))) := rfl
  have e2 : (Value.bool r.leaf :: (bcs r.key ++ (bcs r.value ++ (pfC r.p ++ (bcs r.left ++ bcs r.right))))).drop 33 = bcs r.value ++ (pfC r.p ++ (bcs r.left ++ bcs r.right)) := by rw [show 33 = 1 + 32 from rfl, ← List.drop_drop, e1, d _ _ 32 k1]
  have e3 : (Value.bool r.leaf :: (bcs r.key ++ (bcs r.value ++ (pfC r.p ++ (bcs r.left ++ bcs r.right))))).drop 65 = pfC r.p ++ (bcs r.left ++ bcs r.right) := by rw [show 65 = 33 + 32 from rfl, ← List.drop_drop, e2, d _ _ 32 k2]
  have e4 : (Value.bool r.leaf :: (bcs r.key ++ (bcs r.value ++ (pfC r.p ++ (bcs r.left ++ bcs r.right))))).drop 98 = bcs r.left ++ bcs r.right := by rw [show 98 = 65 + 33 from rfl, ← List.drop_drop, e3, d _ _ 33 k3]
  have e5 : (Value.bool r.leaf :: (bcs r.key ++ (bcs r.value ++ (pfC r.p ++ (bcs r.left ++ bcs r.right))))).drop 130 = bcs r.right := by rw [show 130 = 98 + 32 from rfl, ← List.drop_drop, e4, d _ _ 32 k4]
  refine ⟨by simp only [List.length_cons, List.length_append]; omega, rfl, by rw [e1, t _ _ 32 k1], by rw [e2, t _ _ 32 k2], by rw [e3, t _ _ 33 k3], by rw [e4, t _ _ 32 k4], by rw [e5, List.take_of_length_le (by omega)]⟩
theorem erow_ok {cs : List Value} {r : Rw} (hs : St h0 h (Wo b o N :: F)) (hx : RwR h0 cs r) (hN : N ≤ 1000000000 - 300) : CallsH Tryz.prog n_message_encoder_row #[ptr b, .agg cs.toArray] h (Did h0 F b (N + 99) (app o (encR r))) := by
  obtain ⟨h1, h2, h3, h4, h5, e⟩ := hx
  obtain ⟨p0, p1, p2, p3, p4, p5, p6⟩ := rw_parts h1 h2 h3 h4 h5 e
  clear e
  refine C_message_encoder_row (some (Addr.mk b 0 none)) cs.toArray ?_
  unfold F_message_encoder_row encR
  refine hs.newBlk fun b0 h1' _ st _ => ?_
  simp only [deref_some, add_mk, Nat.zero_add]
  refine ⟨_, st.cell0 (i := 0) p1, ?_⟩
  refine (oflag_ok st.up1 r.leaf (by omega)).mono fun _ h5' ⟨hv, st⟩ => ⟨hv, _, st.up1.cell0 (i := 0) p1, ?_⟩
  rw [br_and]
  refine ⟨fun ht => ?_, fun ht => ?_⟩
  · rw [ht] at st ⊢
    rw [if_pos rfl] at st ⊢
    refine ⟨_, st.up1.rowAt (i := 1) (n := 32) (by show _ ≤ cs.length; omega), ?_⟩
    refine (ehash_ok (x := r.key) st ⟨h1, p2⟩ (by omega)).mono fun _ h9 ⟨hv, st⟩ => ⟨hv, _, st.up1.rowAt (i := 33) (n := 32) (by show _ ≤ cs.length; omega), ?_⟩
    refine (ehash_ok (x := r.value) st ⟨h2, p3⟩ (by omega)).mono fun _ h12 ⟨hv, st⟩ => ⟨hv, rfl, ?_⟩
    simp only [app_assoc] at st ⊢
    exact Wo.mono st.up1.drop (by omega)
  · rw [ht] at st ⊢
    rw [if_neg (by simp)] at st ⊢
    refine ⟨_, st.up1.rowAt (i := 65) (n := 33) (by show _ ≤ cs.length; omega), ?_⟩
    refine (eprefix_ok (p := r.p) st ⟨h3, p4⟩ (by omega)).mono fun _ h15 ⟨hv, st⟩ => ⟨hv, _, st.up1.rowAt (i := 98) (n := 32) (by show _ ≤ cs.length; omega), ?_⟩
    refine (ehash_ok (x := r.left) st ⟨h4, p5⟩ (by omega)).mono fun _ h18 ⟨hv, st⟩ => ⟨hv, _, st.up1.rowAt (i := 130) (n := 32) (by show _ ≤ cs.length; omega), ?_⟩
    refine (ehash_ok (x := r.right) st ⟨h5, p6⟩ (by omega)).mono fun _ h21 ⟨hv, st⟩ => ⟨hv, rfl, ?_⟩
    simp only [app_assoc] at st ⊢
    exact Wo.mono st.up1.drop (by omega)
theorem enews_ok {cs : List Value} {n : Nw} (hs : St h0 h (Wo b o N :: F)) (hx : NwR h0 cs n) (hN : N ≤ 1000000000 - 500) : CallsH Tryz.prog n_message_encoder_news #[ptr b, .agg cs.toArray] h (Did h0 F b (N + 204) (app o (encW n))) := by
  obtain ⟨c, vs, rfl, hT, hV⟩ := hx
  have hlen := hV.len
  refine C_message_encoder_news (some (Addr.mk b 0 none)) (c :: vs).toArray ?_
  unfold F_message_encoder_news encW
  refine hs.newBlk fun b0 h1 _ st _ => ?_
  simp only [add_mk, Nat.zero_add]
  obtain ⟨p, l, cap, rfl, hT'⟩ := id hT
  refine ⟨_, _, _, st.cell0 (i := 0) rfl, ?_⟩
  refine (etext_ok st.up1 hT (by omega)).mono fun _ h6 ⟨hv, st⟩ => ⟨hv, _, st.up1.rowAt (i := 1) (n := 67) (by simp; omega), ?_⟩
  have e : ((Value.slice p l cap :: vs).drop 1).take 67 = vs := by rw [show (Value.slice p l cap :: vs).drop 1 = vs from rfl, List.take_of_length_le (by omega)]
  have hh := eversion_ok (cs := ((Value.slice p l cap :: vs).drop 1).take 67) (v := n.v) st (by rw [e]; exact hV) (by omega)
  refine hh.mono fun _ h9 ⟨hv, st⟩ => ⟨hv, rfl, ?_⟩
  simp only [app_assoc] at st ⊢
  exact Wo.mono st.up1.drop (by omega)
/- ### Lists -/
theorem elistH_ok {c : Value} {xs : List Bytes} (hs : St h0 h (Wo b o N :: F)) (hx : LsR 32 HashR h0 c xs) (hN : N ≤ 900000000) (hl : xs.length ≤ 5000) :
    CallsH Tryz.prog n_message_list_api_Hash #[ptr b, c, .func (.func n_message_encoder_hash) #[ptr b] #[]] h (Did h0 F b (N + 2 + 32 * xs.length) (app o (encL encH xs))) := by
  obtain ⟨p, l, cap, rows, rfl, hr⟩ := id hx
  refine C_message_list_api_Hash (some (Addr.mk b 0 none)) p l cap ?_
  unfold F_message_list_api_Hash
  exact elist_body (fun s _ _ r n => ehash_ok s r (by omega)) (by omega) (by simp) keeps_Hash hs hx (by omega) hl
theorem elistS_ok {c : Value} {xs : List Stp} (hs : St h0 h (Wo b o N :: F)) (hx : LsR 65 StpR h0 c xs) (hN : N ≤ 900000000) (hl : xs.length ≤ 5000) :
    CallsH Tryz.prog n_message_list_proof_Step #[ptr b, c, .func (.func n_message_encoder_step) #[ptr b] #[]] h (Did h0 F b (N + 2 + 66 * xs.length) (app o (encL encS xs))) := by
  obtain ⟨p, l, cap, rows, rfl, hr⟩ := id hx
  refine C_message_list_proof_Step (some (Addr.mk b 0 none)) p l cap ?_
  unfold F_message_list_proof_Step
  exact elist_body (fun s _ _ r n => estep_ok s r (by omega)) (by omega) (by simp) keeps_Stp hs hx (by omega) hl
theorem elistV_ok {c : Value} {xs : List Vr} (hs : St h0 h (Wo b o N :: F)) (hx : LsR 67 VrR h0 c xs) (hN : N ≤ 900000000) (hl : xs.length ≤ 5000) :
    CallsH Tryz.prog n_message_list_chain_Version #[ptr b, c, .func (.func n_message_encoder_version) #[ptr b] #[]] h (Did h0 F b (N + 2 + 138 * xs.length) (app o (encL encV xs))) := by
  obtain ⟨p, l, cap, rows, rfl, hr⟩ := id hx
  refine C_message_list_chain_Version (some (Addr.mk b 0 none)) p l cap ?_
  unfold F_message_list_chain_Version
  exact elist_body (fun s _ _ r n => eversion_ok s r (by omega)) (by omega) (by simp) keeps_Vr hs hx (by omega) hl
theorem elistR_ok {c : Value} {xs : List Rw} (hs : St h0 h (Wo b o N :: F)) (hx : LsR 162 RwR h0 c xs) (hN : N ≤ 900000000) (hl : xs.length ≤ 5000) :
    CallsH Tryz.prog n_message_list_delta_Row #[ptr b, c, .func (.func n_message_encoder_row) #[ptr b] #[]] h (Did h0 F b (N + 2 + 99 * xs.length) (app o (encL encR xs))) := by
  obtain ⟨p, l, cap, rows, rfl, hr⟩ := id hx
  refine C_message_list_delta_Row (some (Addr.mk b 0 none)) p l cap ?_
  unfold F_message_list_delta_Row
  exact elist_body (fun s _ _ r n => erow_ok s r (by omega)) (by omega) (by simp) keeps_Rw hs hx (by omega) hl
theorem elistW_ok {c : Value} {xs : List Nw} (hs : St h0 h (Wo b o N :: F)) (hx : LsR 68 NwR h0 c xs) (hN : N ≤ 900000000) (hl : xs.length ≤ 5000) :
    CallsH Tryz.prog n_message_list_message_News #[ptr b, c, .func (.func n_message_encoder_news) #[ptr b] #[]] h (Did h0 F b (N + 2 + 204 * xs.length) (app o (encL encW xs))) := by
  obtain ⟨p, l, cap, rows, rfl, hr⟩ := id hx
  refine C_message_list_message_News (some (Addr.mk b 0 none)) p l cap ?_
  unfold F_message_list_message_News
  exact elist_body (fun s _ _ r n => enews_ok s r (by omega)) (by omega) (by simp) keeps_Nw hs hx (by omega) hl
theorem etrail_ok {cs : List Value} {t : Trl} (hs : St h0 h (Wo b o N :: F)) (hx : TrR h0 cs t) (hN : N ≤ 800000000) (hl : t.ahead.length ≤ 5000 ∧ t.behind.length ≤ 5000) : CallsH Tryz.prog n_message_encoder_trail #[ptr b, .agg cs.toArray] h (Did h0 F b (N + 400000) (app o (encTr t))) := by
  obtain ⟨c, d, rfl, h1, h2⟩ := hx
  refine C_message_encoder_trail (some (Addr.mk b 0 none)) [c, d].toArray ?_
  unfold F_message_encoder_trail encTr
  refine hs.newBlk fun b0 h1' _ st _ => ?_
  simp only [add_mk, Nat.zero_add]
  obtain ⟨p, l, cap, rows, rfl, hr⟩ := id h1
  obtain ⟨p2, l2, cap2, rows2, rfl, hr2⟩ := id h2
  refine ⟨_, _, _, st.cell0 (i := 0) rfl, ?_⟩
  refine (elistH_ok st.up1 h1 (by omega) hl.1).mono fun _ h6 ⟨hv, st⟩ => ⟨hv, _, _, _, st.up1.cell0 (i := 1) rfl, ?_⟩
  refine (elistH_ok st h2 (by omega) hl.2).mono fun _ h6 ⟨hv, st⟩ => ⟨hv, rfl, ?_⟩
  rw [app_assoc] at st
  exact Wo.mono st.up1.drop (by omega)
theorem eproof_ok {cs : List Value} {p : Prf} (hs : St h0 h (Wo b o N :: F)) (hx : PrR h0 cs p) (hN : N ≤ 800000000) (hl : p.steps.length ≤ 5000) : CallsH Tryz.prog n_message_encoder_proof #[ptr b, .agg cs.toArray] h (Did h0 F b (N + 400000) (app o (encPr p))) := by
  have hlen := hx.len
  obtain ⟨c, hc, hL⟩ := hx.steps
  obtain ⟨l1, l2, l3, l4, l5⟩ := hx.lens
  refine C_message_encoder_proof (some (Addr.mk b 0 none)) cs.toArray ?_
  unfold F_message_encoder_proof encPr
  refine hs.newBlk fun b0 h1 _ st _ => ?_
  simp only [add_mk, Nat.zero_add]
  obtain ⟨q, l, cap, rows, rfl, hr⟩ := id hL
  refine ⟨_, _, _, st.cell0 (i := 0) hc, ?_⟩
  refine (elistS_ok st.up1 hL (by omega) hl).mono fun _ h6 ⟨hv, st⟩ => ⟨hv, _, st.up1.cell0 (i := 1) hx.en, ?_⟩
  rw [← app_assoc]
  generalize app o (encL encS p.steps) = o1 at *
  have e8 : ∀ k : Int, 0 ≤ k → k ≤ 2 → encI 1 0 255 k = some (numB k.toNat 1) := fun k h1 h2 => by unfold encI; rw [if_pos (by omega)]
  rw [br_beq]
  refine ⟨fun h0' => ?_, fun h0' => ?_⟩
  · rw [if_pos h0', deref_some]
    have hu := ou8_ok st 0 (by omega)
    rw [e8 0 (by omega) (by omega)] at hu
    exact hu.mono fun _ h10 ⟨hv, st⟩ => ⟨hv, rfl, Wo.mono st.up1.drop (by omega)⟩
  rw [if_neg h0', br_beq]
  refine ⟨fun h1' => ?_, fun h1' => ?_⟩
  · rw [if_pos h1', deref_some]
    have hu := ou8_ok st 1 (by omega)
    rw [e8 1 (by omega) (by omega)] at hu
    refine hu.mono fun _ h10 ⟨hv, st⟩ => ⟨hv, _, st.up1.rowAt (i := 2) (n := 32) (by show _ ≤ cs.length; omega), ?_⟩
    refine (ehash_ok (x := p.key) st ⟨l1, hx.key⟩ (by omega)).mono fun _ h9 ⟨hv, st⟩ => ⟨hv, _, st.up1.rowAt (i := 34) (n := 32) (by show _ ≤ cs.length; omega), ?_⟩
    refine (ehash_ok (x := p.value) st ⟨l2, hx.value⟩ (by omega)).mono fun _ h12 ⟨hv, st⟩ => ⟨hv, rfl, ?_⟩
    simp only [app_assoc] at st ⊢
    exact Wo.mono st.up1.drop (by omega)
  rw [if_neg h1', br_beq]
  refine ⟨fun h2' => ?_, fun h2' => ?_⟩
  · rw [if_pos h2', deref_some]
    have hu := ou8_ok st 2 (by omega)
    rw [e8 2 (by omega) (by omega)] at hu
    refine hu.mono fun _ h10 ⟨hv, st⟩ => ⟨hv, _, st.up1.rowAt (i := 66) (n := 33) (by show _ ≤ cs.length; omega), ?_⟩
    refine (eprefix_ok (p := p.p) st ⟨l3, hx.p⟩ (by omega)).mono fun _ h9 ⟨hv, st⟩ => ⟨hv, _, st.up1.rowAt (i := 99) (n := 32) (by show _ ≤ cs.length; omega), ?_⟩
    refine (ehash_ok (x := p.left) st ⟨l4, hx.left⟩ (by omega)).mono fun _ h9 ⟨hv, st⟩ => ⟨hv, _, st.up1.rowAt (i := 131) (n := 32) (by show _ ≤ cs.length; omega), ?_⟩
    refine (ehash_ok (x := p.right) st ⟨l5, hx.right⟩ (by omega)).mono fun _ h12 ⟨hv, st⟩ => ⟨hv, rfl, ?_⟩
    simp only [app_assoc] at st ⊢
    exact Wo.mono st.up1.drop (by omega)
  · rw [if_neg h2', app_none]
    exact (espoil_ok st (by omega)).mono fun _ h7 ⟨hv, st⟩ => ⟨hv, rfl, Wo.mono st.up1.drop (by omega)⟩
end
end Go.Proofs.YthlmiijlhiiccaaGreat
