/- Layer 18: the reference's Bare, walked. Printed by genbare2.py. -/
import Derived.Test.YthlmiijlhiiccaaGreatsh
import Derived.Test.YthlmiijlhiiccaaGreatdg
import Derived.Test.YthlmiijlhiiccaaGreatsd
set_option linter.unusedVariables false
set_option linter.unusedSimpArgs false
set_option maxRecDepth 100000
namespace Go.Proofs.YthlmiijlhiiccaaGreat
open Go Go.Vc Go.Proofs Go.Vc.Keys
section
variable {h : Heap}
theorem msR_three (k s d : Int) (hk : I64 k) (hs : I64 s) (hd : I64 d) : MsR h (.int .i64 k :: .int .i64 s :: .int .i64 d :: (zeroC msS).drop 3) { zeroMs with kind := k, src := s, dst := d } := by
  have h0' : I64 (0 : Int) := by unfold I64; omega
  have sg0 : SgR h (hdC zeroSg ++ [Value.slice none 0 0]) zeroSg := sgR_mk rfl rfl ⟨h0', h0'⟩ TxtR.none
  have pr0 : PrR h (prC (.slice none 0 0) 0 zeros zeros zeroPf zeros zeros) zeroPrf := prR_mk rfl rfl pf0_ok rfl rfl h0' LsR.none
  refine ⟨rfl, rfl, rfl, rfl, rfl, rfl, rfl, rfl, ⟨_, rfl, TxtR.none⟩, ⟨_, rfl, TxtR.none⟩, sg0, ⟨_, _, rfl, LsR.none, LsR.none⟩, ⟨_, _, rfl, LsR.none, LsR.none⟩, rfl, rfl, pr0, ⟨_, rfl, LsR.none⟩, ⟨_, rfl, LsR.none⟩, ⟨_, rfl, LsR.none⟩, ⟨_, rfl, LsR.none⟩, ⟨hk, hs, hd, h0', h0', h0', h0'⟩, ?_⟩
  exact ones_cons rfl (ones_cons rfl (ones_cons rfl fun v hv => zero_ones v (List.mem_of_mem_drop hv)))
theorem bare18_ok {cs : List Value} {m : Ms} (hx : MsR h cs m) (sm : Small m) (hbk : fieldsK m.kind ≠ []) : CallsH Tryz.prog n_ref18_Bare #[.agg cs.toArray] h fun v h' => ∃ cs' : List Value, v = .agg cs'.toArray ∧ Ext h h' ∧ MsR h' cs' (bareM m) := by
  refine C_ref18_Bare cs.toArray ?_
  unfold F_ref18_Bare
  have hlen := hx.len
  have hi := hx.ints
  have ho := hx.ones
  obtain ⟨P1, P2, P3⟩ := parts_of hx
  refine (St.start h).newBlk fun b0 h1 _ st _ => st.newBlk fun b2 h3 _ st _ => ?_
  have st : St h h3 [pts b2 0 false (zeroC msS), pts b0 0 false cs] := st
  simp only [add_mk, Nat.zero_add]
  refine ⟨_, st.up1.cell0 (i := 0) hx.kind, _, st.up1.cell0 (i := 1) hx.src, _, st.up1.cell0 (i := 2) hx.dst, ?_⟩
  refine st.newBlk fun b7 h8 _ st _ => ?_
  refine st.storeAll (cs := (Value.int .i64 m.kind :: .int .i64 m.src :: .int .i64 m.dst :: (zeroC msS).drop 3).toArray) rfl rfl (one_list (ones_cons rfl (ones_cons rfl (ones_cons rfl fun v hv => zero_ones v (List.mem_of_mem_drop hv))))) fun h9 st => ?_
  have st : St h h9 [pts b7 0 false (Value.int .i64 m.kind :: .int .i64 m.src :: .int .i64 m.dst :: (zeroC msS).drop 3), pts b2 0 false (zeroC msS), pts b0 0 false cs] := st
  refine ⟨_, st.up2.cell0 (i := 0) hx.kind, (numbers_ok m.kind).mono fun v h12 ⟨hv, e⟩ => ⟨e, _, by simp [hasK_length], hv, ?_⟩⟩
  have st := st.keep e
  have hkl := hasK_length m.kind
  refine st.newBlk fun b14 h15 _ st _ => ?_
  refine st.storeAll rfl (by simp [hasK_length]) (one_list fun v hv => by obtain ⟨t, _, rfl⟩ := List.mem_map.1 hv; rfl) fun h16 st => ?_
  have st : St h h16 [pts b14 0 false ((hasK m.kind).map Value.bool), pts b7 0 false (Value.int .i64 m.kind :: .int .i64 m.src :: .int .i64 m.dst :: (zeroC msS).drop 3), pts b2 0 false (zeroC msS), pts b0 0 false cs] := st
  have b : Br h h16 b7 [pts b14 0 false ((hasK m.kind).map Value.bool), pts b2 0 false (zeroC msS), pts b0 0 false cs] (st0 m) := ⟨_, fun _ => True, (ktrue st.up1).up1, rfl, fun h'' _ _ => msR_three m.kind m.src m.dst hi.1 hi.2.1 hi.2.2.1⟩
  clear st
  generalize hG : [pts b14 0 false ((hasK m.kind).map Value.bool), pts b2 0 false (zeroC msS), pts b0 0 false cs] = G at b
  have C : ∀ {h' : Heap} {mm : Ms} {i : Nat} {v : Value}, Br h h' b7 G mm → cs[i]? = some v → cell h' (Addr.mk b0 i none) = some v := fun b e => by
    subst hG
    exact (b.at (i := 0)).up2.cell0 e
  have B : ∀ {h' : Heap} {mm : Ms} {i : Nat} (hi : i < (hasK m.kind).length), Br h h' b7 G mm → cell h' (Addr.mk b14 i none) = some (.bool (hasK m.kind)[i]) := fun hi b => by
    subst hG
    exact (b.at (i := 0)).cell0 (by rw [List.getElem?_map, List.getElem?_eq_getElem hi]; rfl)
  have Rw' : ∀ {h' : Heap} {mm : Ms} {i n : Nat}, Br h h' b7 G mm → i + n ≤ 279 → row h' (Addr.mk b0 i none) n = some ((cs.drop i).take n).toArray := fun b hin => by
    subst hG
    exact (b.at (i := 0)).up2.rowAt (by omega)
  have PK : ∀ k, k < 18 → ∀ h'', Ext h h'' → Part h'' (part cs k) m k := fun k hk h'' e => (parts_of (keeps_Ms _ _ _ _ e hx)).2.2 k hk
  have LK : ∀ i n, i + n ≤ 279 → ((cs.drop i).take n).length = n := fun i n hh => by simp; omega
  have OK : ∀ i n, ones ((cs.drop i).take n) := fun i n v hv => ho v (List.mem_of_mem_drop (List.mem_of_mem_take hv))

  refine ⟨fun _ h' => Br h h' b7 G (st1 m), ⟨by omega, by omega, _, B (i := 2) (by omega) b, ?_⟩, ?_⟩
  · have hq : (hasK m.kind)[2]? = some (hasK m.kind)[2] := List.getElem?_eq_getElem (by omega)
    cases ht : (hasK m.kind)[2] with
    | true =>
      refine br_yes rfl ⟨_, C b hx.seq, b.set1 (k := 3) (mm' := { st0 m with seq := m.seq }) ktrue (by omega) rfl rfl rfl (fun h'' e _ => ⟨rfl, hi.2.2.2.1⟩) keep_seq fun h' b => ?_⟩
      unfold st1
      rw [if_pos (by rw [hq, ht])]
      exact b
    | false =>
      refine br_no rfl ?_
      unfold st1
      rw [if_neg (by rw [hq, ht]; simp)]
      exact b
  clear b
  rintro _ _ b
  refine ⟨fun _ h' => Br h h' b7 G (st2 m), ⟨by omega, by omega, _, B (i := 3) (by omega) b, ?_⟩, ?_⟩
  · have hq : (hasK m.kind)[3]? = some (hasK m.kind)[3] := List.getElem?_eq_getElem (by omega)
    cases ht : (hasK m.kind)[3] with
    | true =>
      refine br_yes rfl ⟨_, C b hx.epoch, b.set1 (k := 4) (mm' := { st1 m with epoch := m.epoch }) ktrue (by omega) rfl rfl rfl (fun h'' e _ => ⟨rfl, hi.2.2.2.2.1⟩) keep_epoch fun h' b => ?_⟩
      unfold st2
      rw [if_pos (by rw [hq, ht])]
      exact b
    | false =>
      refine br_no rfl ?_
      unfold st2
      rw [if_neg (by rw [hq, ht]; simp)]
      exact b
  clear b
  rintro _ _ b
  refine ⟨fun _ h' => Br h h' b7 G (st3 m), ⟨by omega, by omega, _, B (i := 4) (by omega) b, ?_⟩, ?_⟩
  · have hq : (hasK m.kind)[4]? = some (hasK m.kind)[4] := List.getElem?_eq_getElem (by omega)
    cases ht : (hasK m.kind)[4] with
    | true =>
      refine br_yes rfl ⟨_, C b hx.known, b.set1 (k := 5) (mm' := { st2 m with known := m.known }) ktrue (by omega) rfl rfl rfl (fun h'' e _ => ⟨rfl, hi.2.2.2.2.2.1⟩) keep_known fun h' b => ?_⟩
      unfold st3
      rw [if_pos (by rw [hq, ht])]
      exact b
    | false =>
      refine br_no rfl ?_
      unfold st3
      rw [if_neg (by rw [hq, ht]; simp)]
      exact b
  clear b
  rintro _ _ b
  have E4 : ∀ {h' : Heap} {K : Heap → Prop}, Br h h' b7 G (st3 m) → (m.kind = 2 ∨ m.kind = 4) → (∀ h', Br h h' b7 G (st4 m) → K h') → ∃ n37, cell h' (Addr.mk b0 6 none) = some (.int .i64 n37) ∧ Vc.storeP none h' (Addr.mk b7 6 none) (.int .i64 n37) K := fun b hk hK => by
    refine ⟨_, C b hx.err, b.set1 (k := 6) (mm' := { st3 m with err := m.err }) ktrue (by omega) rfl rfl rfl (fun h'' e _ => ⟨rfl, hi.2.2.2.2.2.2⟩) keep_err fun h' b => hK h' ?_⟩
    unfold st4
    rw [if_pos hk]
    exact b
  refine ⟨fun _ h' => Br h h' b7 G (st4 m), ⟨_, C b hx.kind, ?_⟩, ?_⟩
  · rw [br_beq]
    refine ⟨fun e => E4 b (.inl e) fun h' b => b, fun e => ⟨_, C b hx.kind, ?_⟩⟩
    rw [br_beq]
    refine ⟨fun e => E4 b (.inr e) fun h' b => b, fun e' => ?_⟩
    unfold st4
    rw [if_neg (by omega)]
    exact b
  clear b E4
  rintro _ _ b
  have E5 : ∀ {h' : Heap} {K : Heap → Prop}, Br h h' b7 G (st4 m) → (m.kind = 1 ∨ m.kind = 3) → (∀ h', Br h h' b7 G (st5 m) → K h') → ∃ p l c, cell h' (Addr.mk b0 7 none) = some (.slice p l c) ∧ Vc.storeP none h' (Addr.mk b7 7 none) (.slice p l c) K := fun b hk hK => by
    obtain ⟨c, hc, hT⟩ := hx.label
    obtain ⟨p, l, cap, rfl, _⟩ := id hT
    refine ⟨_, _, _, C b hc, b.set1 (k := 7) (mm' := { st4 m with label := m.label }) ktrue (by omega) rfl rfl rfl (fun h'' e _ => ⟨_, rfl, hT.ext e⟩) keep_label fun h' b => hK h' ?_⟩
    unfold st5
    rw [if_pos hk]
    exact b
  refine ⟨fun _ h' => Br h h' b7 G (st5 m), ⟨_, C b hx.kind, ?_⟩, ?_⟩
  · rw [br_beq]
    refine ⟨fun e => E5 b (.inl e) fun h' b => b, fun e => ⟨_, C b hx.kind, ?_⟩⟩
    rw [br_beq]
    refine ⟨fun e => E5 b (.inr e) fun h' b => b, fun e' => ?_⟩
    unfold st5
    rw [if_neg (by omega)]
    exact b
  clear b E5
  rintro _ _ b
  refine ⟨fun _ h' => Br h h' b7 G (st6 m), ⟨_, C b hx.kind, ?_⟩, ?_⟩
  · rw [br_beq]
    unfold st6
    refine ⟨fun e => ?_, fun e => by rw [if_neg e]; exact b⟩
    rw [if_pos e]
    obtain ⟨c, hc, hT⟩ := hx.value
    obtain ⟨p, l, cap, rfl, _⟩ := id hT
    exact ⟨_, _, _, C b hc, b.set1 (k := 8) (mm' := { st5 m with value := m.value }) ktrue (by omega) rfl rfl rfl (fun h'' e _ => ⟨_, rfl, hT.ext e⟩) keep_value fun h' b => b⟩
  clear b
  rintro _ _ b
  refine ⟨fun _ h' => Br h h' b7 G (st7 m), ⟨_, C b hx.kind, ?_⟩, ?_⟩
  · rw [br_beq]
    refine ⟨fun e4 => ⟨_, C b hx.err, ?_⟩, fun e => by unfold st7; rw [if_neg (fun hh => e hh.1)]; exact b⟩
    rw [br_beq]
    refine ⟨fun e0 => ?_, fun e => by unfold st7; rw [if_neg (fun hh => e hh.2)]; exact b⟩
    unfold st7
    rw [if_pos ⟨e4, e0⟩]
    refine ⟨_, Rw' (i := 9) (n := 67) b (by omega), b.set (k := 9) (mm' := { st6 m with sg := m.sg }) ktrue (by omega) rfl rfl (LK 9 67 (by omega)) (OK _ _) (fun h'' e _ => PK 9 (by omega) h'' e) keep_sg fun h' b => ?_⟩
    refine ⟨_, Rw' (i := 76) (n := 2) b (by omega), b.set (k := 10) (mm' := { st6 m with sg := m.sg, growth := m.growth }) ktrue (by omega) rfl rfl (LK 76 2 (by omega)) (OK _ _) (fun h'' e _ => PK 10 (by omega) h'' e) keep_growth fun h' b => ?_⟩
    refine ⟨_, Rw' (i := 78) (n := 2) b (by omega), b.set (k := 11) (mm' := { st6 m with sg := m.sg, growth := m.growth, place := m.place }) ktrue (by omega) rfl rfl (LK 78 2 (by omega)) (OK _ _) (fun h'' e _ => PK 11 (by omega) h'' e) keep_place fun h' b => ?_⟩
    refine ⟨_, Rw' (i := 80) (n := 32) b (by omega), b.set (k := 12) (mm' := { st6 m with sg := m.sg, growth := m.growth, place := m.place, tree := m.tree }) ktrue (by omega) rfl rfl (LK 80 32 (by omega)) (OK _ _) (fun h'' e _ => PK 12 (by omega) h'' e) keep_tree fun h' b => ?_⟩
    refine ⟨_, Rw' (i := 112) (n := 163) b (by omega), (ended_ok hx.proof).mono fun v h78 ⟨ps, hv, hpl, hpo, hp, e⟩ => ⟨e, _, by simpa using hpl, hv, ?_⟩⟩
    have b := b.keep e
    refine b.set (k := 13) (mm' := { st6 m with sg := m.sg, growth := m.growth, place := m.place, tree := m.tree, proof := barePr m.proof }) ktrue (by omega) rfl rfl hpl hpo (fun h'' e _ => keeps_Pr _ _ _ _ e hp) keep_proof fun h' b => ?_
    obtain ⟨c, hc, hT⟩ := hx.chain
    obtain ⟨p, l, cap, _, rfl, _⟩ := id hT
    exact ⟨_, _, _, C b hc, b.set1 (k := 14) (mm' := { st6 m with sg := m.sg, growth := m.growth, place := m.place, tree := m.tree, proof := barePr m.proof, chain := m.chain }) ktrue (by omega) rfl rfl rfl (fun h'' e _ => ⟨_, rfl, hT.ext keeps_Vr e⟩) keep_chain fun h' b => b⟩
  clear b
  rintro _ _ b
  have E8 : ∀ {h' : Heap} {K : Heap → Prop}, Br h h' b7 G (st7 m) → (m.kind = 5 ∨ m.kind = 8) → (∀ h', Br h h' b7 G (st8 m) → K h') → ∃ cs89 : Array Value, row h' (Addr.mk b0 9 none) 67 = some cs89 ∧ Vc.storeP (some 67) h' (Addr.mk b7 9 none) (.agg cs89) fun h90 => ∃ p l c, cell h90 (Addr.mk b0 277 none) = some (.slice p l c) ∧ Vc.storeP none h90 (Addr.mk b7 277 none) (.slice p l c) K := fun b hk hK => by
    refine ⟨_, Rw' (i := 9) (n := 67) b (by omega), b.set (k := 9) (mm' := { st7 m with sg := m.sg }) ktrue (by omega) rfl rfl (LK 9 67 (by omega)) (OK _ _) (fun h'' e _ => PK 9 (by omega) h'' e) keep_sg fun h' b => ?_⟩
    obtain ⟨c, hc, hT⟩ := hx.news
    obtain ⟨p, l, cap, _, rfl, _⟩ := id hT
    refine ⟨_, _, _, C b hc, b.set1 (k := 16) (mm' := { st7 m with sg := m.sg, news := m.news }) ktrue (by omega) rfl rfl rfl (fun h'' e _ => ⟨_, rfl, hT.ext keeps_Nw e⟩) keep_news fun h' b => hK h' ?_⟩
    unfold st8
    rw [if_pos hk]
    exact b
  refine ⟨fun _ h' => Br h h' b7 G (st8 m), ⟨_, C b hx.kind, ?_⟩, ?_⟩
  · rw [br_beq]
    refine ⟨fun e => E8 b (.inl e) fun h' b => b, fun e => ⟨_, C b hx.kind, ?_⟩⟩
    rw [br_beq]
    refine ⟨fun e => E8 b (.inr e) fun h' b => b, fun e' => ?_⟩
    unfold st8
    rw [if_neg (by omega)]
    exact b
  clear b E8
  rintro _ _ b
  refine ⟨fun _ h' => Br h h' b7 G (st9 m), ⟨_, C b hx.kind, ?_⟩, ?_⟩
  · rw [br_beq]
    unfold st9
    refine ⟨fun e => ?_, fun e => by rw [if_neg e]; exact b⟩
    rw [if_pos e]
    obtain ⟨c, hc, hT⟩ := hx.rows
    obtain ⟨p, l, cap, _, rfl, _⟩ := id hT
    refine ⟨_, _, _, C b hc, (rows18_ok (hT.ext keeps_Rw (b.at (i := 0)).ext) sm.rows).mono fun v h110 hq => ?_⟩
    obtain ⟨e, p', l', c', hv, hkn⟩ := hq
    refine ⟨e, p', l', c', hv, ?_⟩
    obtain ⟨cs1, φ, s1, k1, k2⟩ := b
    have s2 := hkn s1
    refine s2.up1.store0 (by omega) rfl fun h' s => ?_
    have e' : cs1.set 276 (.slice p' l' c') = lay cs1 276 [.slice p' l' c'] := by rw [← lay_cons (l := []) (by omega), lay_nil]
    rw [e'] at s
    exact ⟨lay cs1 276 [.slice p' l' c'], fun h => LsR 162 RwR h (.slice p' l' c') (m.rows.map bareRw) ∧ φ h, (s.dn2.knBoth).up1, by rw [lay_length (by simp; omega), k1], fun h'' e q => msR_lay (k := 15) (by omega) (k2 h'' e q.2) rfl (ones_cons rfl ones_nil) ⟨_, rfl, q.1⟩ keep_rows⟩
  clear b
  rintro _ _ b
  refine ⟨fun _ h' => Br h h' b7 G (st10 m), ⟨_, C b hx.kind, ?_⟩, ?_⟩
  · rw [br_beq]
    unfold st10
    refine ⟨fun e => ?_, fun e => by rw [if_neg e]; exact b⟩
    rw [if_pos e]
    obtain ⟨c, hc, hT⟩ := hx.trees
    obtain ⟨p, l, cap, _, rfl, _⟩ := id hT
    exact ⟨_, _, _, C b hc, b.set1 (k := 17) (mm' := { st9 m with trees := m.trees }) ktrue (by omega) rfl rfl rfl (fun h'' e _ => ⟨_, rfl, hT.ext keeps_Hash e⟩) keep_trees fun h' b => b⟩
  clear b
  rintro _ _ b
  rw [st10_bare m hbk] at b
  subst hG
  obtain ⟨cs1, φ, s1, k1, k2⟩ := b
  have hones : ones cs1 := (k2 _ s1.ext s1.up1.known).ones
  refine ⟨_, s1.row0 k1, ret18 s1.up3 rfl k1 hones fun h' st => ⟨_, rfl, st.ext, k2 _ st.ext st.up1.known⟩⟩
end
end Go.Proofs.YthlmiijlhiiccaaGreat
