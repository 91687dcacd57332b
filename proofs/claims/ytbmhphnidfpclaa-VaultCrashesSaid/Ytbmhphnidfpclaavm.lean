/- Layer 10: VaultCrashes. -/
import Derived.Test.Ytbmhphnidfpclaavl
import Derived.Test.YtbmhphnidfpclaaFj
set_option linter.unusedVariables false
set_option maxRecDepth 100000
namespace Go.Proofs.Ytbmhphnidfpclaa
open Go Go.Vc Go.Proofs
theorem _root_.Go.Vc.St.up6 {h0 h : Heap} {F : List HP} {A B C D E G I : HP} (hs : St h0 h (A :: B :: C :: D :: E :: G :: I :: F)) : St h0 h (I :: A :: B :: C :: D :: E :: G :: F) :=
  hs.conseq fun _ s => star_swap (star_tail (fun _ s => star_swap (star_tail (fun _ s => star_swap (star_tail (fun _ s => star_swap (star_tail (fun _ s => star_swap (star_tail (fun _ => star_swap) s)) s)) s)) s)) s)
theorem Rest.within {D : Dev} {n c : Nat} {s : Vs} {y : List (List UInt8)} (r : Rest D n c s y) (hs : spN n < 255) (hn : 2 ≤ n) (h1 : 1 ≤ c) (hc : c + 4 < 18446744073709551616) (hg : s.gen + 1 < 4294967296) (list : List Int) :
    ∃ c' s', Rest (restartD (saveD D 0 (encV s.next)).2 list) n c' s' y ∧ c ≤ c' ∧ c' ≤ c + 2 ∧ s'.gen ≤ s.gen + 1 := by
  rcases r.open hs hn (by omega) hg 0 with ⟨_, _, _, i⟩ | ⟨_, hcr⟩
  · obtain ⟨c', s', y', r', k1, k2, k3, k4, k5⟩ := i.restart hs hn (by omega) list
    rcases k5 with ⟨p1, p2⟩ | h
    · have e : y' = y := p1.eq_of_length (by have := p1.length_le; omega)
      subst e
      exact ⟨c', s', r', by omega, by omega, k4⟩
    · cases h
  · obtain ⟨L, cr⟩ := hcr h1
    obtain ⟨c', s', y', r', k1, k2, k3, k4, k5⟩ := cr.restart hs hn (by omega) list
    rcases k5 with ⟨m, _, _, e⟩ | h
    · have e : y' = y := by rw [e]; simp
      subst e
      exact ⟨c', s', r', by omega, by omega, k4⟩
    · cases h
theorem vopen_any {h0 h : Heap} {F : List HP} {d n c : Nat} {D : Dev} {s : Vs} {y : List (List UInt8)} (hs : St h0 h (Dv d D :: F)) (r : Rest D n c s y) (h4 : 4 ≤ n) (hsp : spN n < 255) (hc : c + 3 < 18446744073709551616) (hg : s.gen + 1 < 4294967296) :
    CallsH Try.prog n_vault_Open #[ptr d] h fun v h' => ∃ p q l c' e, v = .tuple #[.pointer p, .slice q l c', .int .i64 e] ∧ St h0 h' (Dv d (saveD D 0 (encV s.next)).2 :: F) :=
  (vopen_ok hs r h4 hsp hc hg).mono fun v h' hh => by
    rcases hh with ⟨_, vb, lb, p, l, c', S, hv, _, st⟩ | ⟨_, hv, st⟩
    · exact ⟨_, _, _, _, _, hv, ((st.up2).up4.drop).up3.drop.up2.drop |>.up1.drop⟩
    · exact ⟨_, _, _, _, _, hv, st⟩
/-- What the loop keeps: the vault, all records that may be there, and those of replaces. -/
def Fu (h : Heap) (pre : List HP) (d vb : Nat) (w u : Option Addr × Nat × Nat) (sure : Int) (cb gb qb tb ub : Nat) (h' : Heap) : Prop :=
  ∃ (lb : Nat) (V : VT) (T : List Pg) (U : List (Sl × List Pg)) (c gm s : Nat), sure = s ∧ V.L.d = d ∧ VI V 120 c gm (rL T) s (U.map fun x => rL x.2) ∧ c ≤ cb ∧ gm ≤ gb ∧ V.D.queue.length ≤ qb ∧ T.length ≤ tb ∧ U.length ≤ ub ∧ (∀ x ∈ U, Bls h x.1.1 x.1.2.1 x.2 ∧ x.2.length ≤ 10) ∧
    St h h' (pre ++ [Vv vb d V.s (some (Addr.mk lb 0 none)) V.ov, Lv lb V.L, Dv d V.D, rdo 1 w.1 w.2.1 (T.map (·.1.v)), rds T, own 1 u.1 u.2.1 u.2.2 (U.map (·.1.v))])
theorem Fu.mono {h : Heap} {pre : List HP} {d vb : Nat} {w u : Option Addr × Nat × Nat} {sure : Int} {cb gb qb tb ub cb' gb' qb' tb' ub' : Nat} {h' : Heap} (f : Fu h pre d vb w u sure cb gb qb tb ub h') (h1 : cb ≤ cb') (h2 : gb ≤ gb') (h3 : qb ≤ qb') (h4 : tb ≤ tb') (h5 : ub ≤ ub') : Fu h pre d vb w u sure cb' gb' qb' tb' ub' h' := by
  obtain ⟨lb, V, T, U, c, gm, s, e1, e2, e3, e4, e5, e6, e7, e8, e9⟩ := f
  exact ⟨lb, V, T, U, c, gm, s, e1, e2, e3, by omega, by omega, by omega, by omega, by omega, e9⟩
theorem St.four10 {h0 h : Heap} {A B C D : HP} {F : List HP} (hs : St h0 h (A :: B :: C :: D :: F)) : St h0 h [A, B, C, D] := hs.conseq fun m ⟨m1, m2, a1, a2, c1, q1, m3, m4, a3, a4, c2, q2, m5, m6, a5, a6, c3, q3, m7, m8, a7, a8, c4, q4, _⟩ =>
  ⟨m1, m2, a1, a2, c1, q1, m3, m4, a3, a4, c2, q2, m5, m6, a5, a6, c3, q3, m7, m8, a7, a8, c4, q4, trivial⟩
theorem app2 {h h1 : Heap} {F : List HP} {A B C D : HP} {o : OpV} {T : List Pg} {p wp : Option Addr} {wl c : Nat} {q : Option Addr} {ql qc : Nat} {x y z : Value} {e1 e2 : TypeId} {K : Option Addr → Nat → Nat → Heap → Prop}
    (hs : St h h1 (own 1 p wl c (T.map (·.1.v)) :: A :: B :: C :: D :: rdo 1 wp wl (T.map (·.1.v)) :: rds T :: F)) (hb : Bls h q ql o.S) (hwl : wl ≤ 1000)
    (hk : ∀ p' c' h', St h h' (A :: B :: C :: D :: rdo 1 p' (wl + 1) ((T ++ [o.one]).map (·.1.v)) :: rds (T ++ [o.one]) :: F) → K p' (wl + 1) c' h') :
    CallsH Try.prog n_law10_record #[.agg #[x, y, .slice q ql qc, z]] h1 fun v h63 => Ext h1 h63 ∧ ∃ p64 l65 c66, v = .slice p64 l65 c66 ∧ newBlk h63 e1 #[.slice p64 l65 c66] fun b67 h68 => appendP e2 1 24 #[.slice none 0 0] p wl c (some (Addr.mk b67 0 none)) 1 h68 K := by
  refine (record_ok x y z (hb.ext hs.ext)).mono fun v h63 ⟨hv, e⟩ => ⟨e, _, _, _, hv, ?_⟩
  have hs := hs.keep e
  obtain ⟨hb1, hb2⟩ := OpV.one_bs hb
  have hs := hs.up5.drop
  have st := (St.rdsOf (hs.old hb1.2) hb2)
  have st : St h h63 (rds [o.one] :: own 1 p wl c (T.map (·.1.v)) :: A :: B :: C :: D :: rds T :: F) := st
  refine st.newBlk fun b67 h68 _ st _ => ?_
  refine St.append (xs := [o.one.1.v]) st.up2 ⟨rfl, by simp only [src, Nat.one_mul]; exact st.row0 rfl⟩ (by intro v hv; simp only [List.mem_singleton] at hv; subst hv; rfl) rfl (by omega) (by unfold maxLen; omega) fun p95 c97 h98 st _ => hk _ _ _ ?_
  have st := st.up1.drop.ro
  have e : (T ++ [o.one]).map (·.1.v) = T.map (·.1.v) ++ [o.one.1.v] := by rw [List.map_append]; rfl
  rw [e]
  have st := st.up1.up6.rdsJoin.up1
  exact (st.up5.up5.up5.up5)
theorem found_any {y : List (List UInt8)} {all : List (List UInt8)} {sure : Nat} {U : List (Sl × List Pg)} (h : (y <+: all ∧ sure ≤ y.length) ∨ y ∈ U.map (fun x => rL x.2)) : ((decide ((y.length : Int) ≥ sure) && decide (y <+: all)) || U.any (fun x => decide (y = rL x.2))) = true := by
  rcases h with ⟨h1, h2⟩ | h
  · rw [decide_eq_true h1, decide_eq_true (by omega)]; rfl
  · obtain ⟨x, hx, e⟩ := List.mem_map.1 h
    have : U.any (fun x => decide (y = rL x.2)) = true := List.any_eq_true.2 ⟨x, hx, by simp [e]⟩
    rw [this, Bool.or_true]
theorem vaultCrashes_ok {h : Heap} {p wq : Option Addr} {l c wn wc : Nat} {os : List OpV} {ws : List UInt8} (hf : OpVs h p l os) (hw : Bs h wq wn ws) : CallsH Try.prog n_law10_VaultCrashes #[.slice p l c, .slice wq wn wc] h fun v h' => v = .bool true ∧ Ext h h' := by
  refine C_law10_VaultCrashes p l c wq wn wc ?_
  unfold F_law10_VaultCrashes
  have hlen := hf.len
  have hwl := hw.1
  refine ⟨fun _ h' => ((os.length ≤ 30 ∧ ∀ o ∈ os, o.S.length ≤ 10 ∧ (∀ e ∈ o.S, e.2.length ≤ 7000) ∧ o.list.length ≤ 200) ∧ wn ≤ 8) ∧ St h h' [], ?_, ?_⟩
  · refine (awake10_ok h).mono fun v h1 ⟨hv, e1⟩ => ⟨e1, true, hv, br_no rfl ?_⟩
    have s := (St.start h).keep e1
    refine (few10_ok (hf.ext s.ext) 30 (by omega)).mono fun v h7 ⟨⟨t, hv, ht⟩, hh⟩ => ?_
    subst hh
    refine ⟨Ext.refl _, t, hv, ?_⟩
    cases t
    · exact br_yes rfl (awake10_end s)
    refine br_no rfl ?_
    rw [br_decide]
    exact ⟨fun _ => awake10_end s, fun _ => ⟨⟨ht rfl, by omega⟩, s⟩⟩
  rintro _ h14 ⟨⟨⟨hl30, hfew⟩, hw8⟩, s⟩
  refine (new_ok h14 120 (by omega)).mono fun v h16 ⟨d, hv, nw⟩ => ⟨nw.ext, some (Addr.mk d 0 none), 0, hv, ?_⟩
  have s := s.join nw
  simp only [List.cons_append, List.nil_append] at s
  have r := rest_new (n := 120) (by omega) (by omega)
  have hsp : spN 120 < 255 := by decide
  obtain ⟨k0, k1, k2, i0⟩ := r.openLive (live_new 120) hsp (by omega) (by omega) (by show 0 + 1 < _; omega) d
  refine (vopen_ok s r (by omega) hsp (by omega) (by show 0 + 1 < _; omega)).mono fun v h20 hh => ?_
  have q2 : (saveD (newD 120) 0 (encV (Vs.next ⟨false, 1, 0⟩))).2.queue.length ≤ 1 := vsaveD_q (D := newD 120) (encV (Vs.next ⟨false, 1, 0⟩))
  rw [k0] at hh
  generalize (saveD (newD 120) 0 (encV (Vs.next ⟨false, 1, 0⟩))).2 = D1 at *
  rcases hh with ⟨_, vb, lb, p7, l8, c9, S, hv, hS, st⟩ | ⟨h6, _⟩
  rotate_left
  · cases h6
  refine ⟨_, p7, l8, c9, 0, hv, ?_⟩
  have hLd : (openL 120 d (Vs.next ⟨false, 1, 0⟩) D1).d = d := rfl
  have st : St h h20 [Vv vb d (Vs.next ⟨false, 1, 0⟩) (some (Addr.mk lb 0 none)) false, Lv lb (openL 120 d (Vs.next ⟨false, 1, 0⟩) D1), Dv d D1, rdo 1 none 0 (([] : List Pg).map (·.1.v)), rds [], own 1 none 0 0 (([] : List (Sl × List Pg)).map (·.1.v))] := (((St.three st).nil 1).rdsNil.nil 1).ro.up5.up5.up5
  refine ⟨fun st h' => ∃ (k vb : Nat), st.1 = some (Addr.mk vb 0 none) ∧ st.2.2.2.2 = k ∧ k ≤ l ∧ Ext h h' ∧ (k ≤ 29 → Fu h [] d vb st.2.1 st.2.2.1 st.2.2.2.1 (1 + 20 * k) (1 + 9 * k) (1 + 800 * k) (10 + k) k h'), fun st _ => ((l : Int) - st.2.2.2.2).toNat,
    ⟨0, vb, rfl, rfl, Nat.zero_le _, st.ext, fun _ => ⟨lb, ⟨Vs.next ⟨false, 1, 0⟩, false, openL 120 d (Vs.next ⟨false, 1, 0⟩) D1, D1⟩, [], [], 1, 1, 0, rfl, hLd, i0, by omega, by omega, by dsimp only; omega, by simp, by simp, fun x hx => (by cases hx), st⟩⟩, ?_⟩
  clear st q2
  rintro ⟨vp, ⟨ap, al, ac⟩, ⟨bp, bl, bc⟩, sr, i⟩ h32 ⟨k, vb, rfl, rfl, hk, ext32, full⟩
  dsimp only at full ⊢
  rw [br_decide]
  refine ⟨fun hlt => ⟨by omega, hlt, ?_⟩, fun hge => ⟨rfl, ext32⟩⟩
  have hkl : k < l := by omega
  have hk29 : k ≤ 29 := by omega
  have full := full hk29
  have hi1 : IntKind.wrap .i64 ((k : Int) + 1) = ((k + 1 : Nat) : Int) := by rw [wrap_i64 (by omega) (by omega)]; omega
  have hm : ((l : Int) - IntKind.wrap .i64 ((k : Int) + 1)).toNat < ((l : Int) - (k : Int)).toNat := by rw [hi1]; omega
  obtain ⟨b0, o0, q, ql, qc, lp, ll, lc, hko, rfl, hqlc, hqcm, hb, hlist, hofu, hll, c2, c3, hrow⟩ := hf.get hkl
  obtain ⟨hS10, hS7, hl200⟩ := hfew _ (List.getElem_mem hko)
  generalize hOO : os[k] = o at *
  simp only [deref_some, add_mk, Int.toNat_natCast]
  refine ⟨_, ext32.row hrow, ?_⟩
  obtain ⟨lb, V, T, U, c0, gm, sn, rfl, hd, vi, hc, hg, hq, hT, hU, hUb, st⟩ := full
  simp only [List.nil_append] at st
  refine st.newBlk fun b35 h36 _ st _ => ?_
  refine st.storeAll (by simp) (by simp) (by intro v hv; simp at hv; rcases hv with rfl | rfl | rfl | rfl <;> rfl) fun h37 st => ?_
  obtain ⟨va1, va2, va3, va4, va5, va6, va7⟩ := vi.area
  -- the cells of the call
  have R : ∀ {h' : Heap} {F : List HP}, St h h' (pts b35 0 false [.int .i64 o.k, .int .i64 o.i, .slice q ql qc, .slice lp ll lc] :: F) → St h h' [pts b35 0 false [.int .i64 o.k, .int .i64 o.i, .slice q ql qc, .slice lp ll lc]] := fun s => St.one s
  refine ⟨fun w h' => St h h' [pts b35 0 false [.int .i64 o.k, .int .i64 o.i, .slice q ql qc, .slice lp ll lc]] ∧ (k ≤ 28 ∨ o.k ≠ 1 → Fu h [pts b35 0 false [.int .i64 o.k, .int .i64 o.i, .slice q ql qc, .slice lp ll lc]] d vb w (bp, bl, bc) sn (1 + 20 * k) (1 + 9 * k) (60 + 800 * k) (11 + k) k h'), ?_, ?_⟩
  · have stay : ∀ {h' : Heap}, St h h' [pts b35 0 false [.int .i64 o.k, .int .i64 o.i, .slice q ql qc, .slice lp ll lc], Vv vb d V.s (some (Addr.mk lb 0 none)) V.ov, Lv lb V.L, Dv d V.D, rdo 1 ap al (T.map (·.1.v)), rds T, own 1 bp bl bc (U.map (·.1.v))] →
        St h h' [pts b35 0 false [.int .i64 o.k, .int .i64 o.i, .slice q ql qc, .slice lp ll lc]] ∧ (k ≤ 28 ∨ o.k ≠ 1 → Fu h [pts b35 0 false [.int .i64 o.k, .int .i64 o.i, .slice q ql qc, .slice lp ll lc]] d vb (ap, al, ac) (bp, bl, bc) sn (1 + 20 * k) (1 + 9 * k) (60 + 800 * k) (11 + k) k h') :=
      fun s => ⟨R s, fun _ => ⟨lb, V, T, U, c0, gm, sn, rfl, hd, vi, hc, hg, by omega, by omega, hU, hUb, s⟩⟩
    refine ⟨_, st.cell0 (i := 0) rfl, ?_⟩
    rw [br_beq]
    refine ⟨fun ek => ⟨_, st.row0 rfl, ?_⟩, fun _ => stay st⟩
    refine (record_ok _ _ _ (hb.ext st.ext)).mono fun v h42 ⟨hv, e⟩ => ⟨e, _, _, _, hv, ?_⟩
    have st := st.keep e
    rw [br_decide]
    refine ⟨fun hle => ⟨_, st.row0 rfl, ?_⟩, fun _ => stay st⟩
    refine (record_ok _ _ _ (hb.ext st.ext)).mono fun v h48 ⟨hv, e⟩ => ⟨e, _, _, _, hv, ?_⟩
    have st := st.keep e
    obtain ⟨hb1, hb2⟩ := OpV.one_bs hb
    have hb1l := hb1.1
    refine (vappend_ok hd ((st.old hb1.2).up4.up4.up4) hb2 (by omega) vi.wf vi.lwf (by omega)).mono fun v h53 ⟨hv, st⟩ => ⟨_, hv, ?_⟩
    have st := (st.up3.drop).up3
    have e2 : (appendT V o.one.2).2.L.d = V.L.d ∧ (appendT V o.one.2).2.D.queue.length ≤ V.D.queue.length + 55 := by
      unfold appendT
      split
      · exact ⟨rfl, by dsimp only; omega⟩
      · exact ⟨(appendD_lwf vi.lwf _).2.1, appendD_q _ _ _⟩
    obtain ⟨rd3, rq3⟩ := e2
    rw [hd] at rd3
    have hvi := fun hh => vi.append (b := o.one.2) hh (by omega)
    have hfive : (appendT V o.one.2).1 = 5 → k ≤ 28 → (appendT V o.one.2).2 = V := fun h5 hk28 => by
      rcases hvi (by omega) with ⟨_, g⟩ | ⟨g, _⟩ | ⟨g, _⟩
      · exact g
      · omega
      · omega
    have hnot : (appendT V o.one.2).1 ≠ 5 → k ≤ 28 → VI (appendT V o.one.2).2 120 c0 gm (rL T ++ [o.one.2]) sn (U.map fun x => rL x.2) := fun h5 hk28 => by
      rcases hvi (by omega) with ⟨g, _⟩ | ⟨_, _, _, g⟩ | ⟨_, _, g⟩
      · exact absurd g h5
      · exact g
      · exact g
    generalize appendT V o.one.2 = AT at *
    have hrd := rd_rdo st.up4.at
    have hwl2 : T.length = al := by have := hrd.1; simpa using this
    rw [br_bne]
    refine ⟨fun hne => ?_, fun heq => ⟨R st, fun hh => ?_⟩⟩
    rotate_left
    · have hk28 : k ≤ 28 := by omega
      rw [hfive heq hk28] at st
      exact ⟨lb, V, T, U, c0, gm, sn, rfl, hd, vi, hc, hg, by omega, by omega, hU, hUb, st⟩
    have erl : rL (T ++ [o.one]) = rL T ++ [o.one.2] := by simp [rL]
    have last : ∀ {w : Option Addr × Nat × Nat} {h' : Heap}, w.2.1 = al + 1 → St h h' [pts b35 0 false [.int .i64 o.k, .int .i64 o.i, .slice q ql qc, .slice lp ll lc], Vv vb d AT.2.s (some (Addr.mk lb 0 none)) AT.2.ov, Lv lb AT.2.L, Dv d AT.2.D, rdo 1 w.1 (al + 1) ((T ++ [o.one]).map (·.1.v)), rds (T ++ [o.one]), own 1 bp bl bc (U.map (·.1.v))] →
        St h h' [pts b35 0 false [.int .i64 o.k, .int .i64 o.i, .slice q ql qc, .slice lp ll lc]] ∧ (k ≤ 28 ∨ o.k ≠ 1 → Fu h [pts b35 0 false [.int .i64 o.k, .int .i64 o.i, .slice q ql qc, .slice lp ll lc]] d vb w (bp, bl, bc) sn (1 + 20 * k) (1 + 9 * k) (60 + 800 * k) (11 + k) k h') :=
      fun hw s => ⟨R s, fun hh => ⟨lb, AT.2, T ++ [o.one], U, c0, gm, sn, rfl, rd3, by rw [erl]; exact hnot hne (by omega), hc, hg, by omega, by simp; omega, hU, hUb, by rw [hw]; exact s⟩⟩
    have hnil : ∀ {h' : Heap} {b : Nat} {G : List HP}, St h h' (pts b 0 false #[].toList :: G) → St h h' (own 1 (some (Addr.mk b 0 none)) 0 0 [] :: G) := fun s => s.impl fun m q => ⟨rfl, Nat.le_refl _, by unfold maxLen; omega, .inr ⟨_, 0, [], rfl, rfl, q⟩⟩
    have hal : al ≤ 1000 := by omega
    refine ⟨st.newBlk fun b55 h56 _ st _ => ⟨?_, _, st.up1.row0 rfl, ?_⟩, _, st.row0 rfl, st.newBlk fun b90 h91 _ st _ => ?_⟩
    · refine St.append (xs := T.map (·.1.v)) (hnil st) (rd_rdo st.up5.at) (slv_one T) rfl (by omega) (by unfold maxLen; omega) fun p57 c59 h60 st _ => ⟨_, st.up1.row0 rfl, ?_⟩
      rw [List.nil_append] at st
      simp only [Nat.zero_add] at st ⊢
      exact app2 st hb hal fun p' c' h' s => last rfl s
    · refine St.append (xs := T.map (·.1.v)) (hnil st) (rd_rdo st.up5.at) (slv_one T) rfl (by omega) (by unfold maxLen; omega) fun p57 c59 h60 st _ => ?_
      rw [List.nil_append] at st
      simp only [Nat.zero_add] at st ⊢
      exact app2 st hb hal fun p' c' h' s => last rfl s
    · refine St.append (xs := T.map (·.1.v)) (hnil st) (rd_rdo st.up5.at) (slv_one T) rfl (by omega) (by unfold maxLen; omega) fun p57 c59 h60 st _ => ?_
      rw [List.nil_append] at st
      simp only [Nat.zero_add] at st ⊢
      exact app2 st hb hal fun p' c' h' s => last rfl s
  clear st vi hd hUb
  rintro ⟨ap, al, ac⟩ h108 ⟨st, full⟩
  refine ⟨fun n h' => St h h' [pts b35 0 false [.int .i64 o.k, .int .i64 o.i, .slice q ql qc, .slice lp ll lc]] ∧ (k ≤ 28 ∨ o.k ≠ 1 → Fu h [pts b35 0 false [.int .i64 o.k, .int .i64 o.i, .slice q ql qc, .slice lp ll lc]] d vb (ap, al, ac) (bp, bl, bc) n (1 + 20 * k) (1 + 9 * k) (60 + 800 * k) (11 + k) k h'), ?_, ?_⟩
  · refine ⟨_, st.cell0 (i := 0) rfl, ?_⟩
    rw [br_beq]
    refine ⟨fun ek => ?_, fun _ => ⟨st, full⟩⟩
    obtain ⟨lb, V, T, U, c0, gm, sn2, e, hd, vi, hc, hg, hq, hT, hU, hUb, st⟩ := full (.inr (by omega))
    simp only [List.cons_append, List.nil_append] at st
    refine (vflush_ok hd st.dn3 vi.wf (by omega)).mono fun v h112 ⟨hv, st⟩ => ⟨_, hv, ?_⟩
    have hrd := rd_rdo st.up4.at
    have hwl2 : T.length = al := by have := hrd.1; simpa using this
    have st := st.up3
    have hd2 : (flushT V).2.L.d = d := by
      unfold flushT
      split
      · exact hd
      · exact (flushL_lwf vi.lwf).2.1.trans hd
    have hq2 : (flushT V).2.D.queue.length ≤ V.D.queue.length := by
      unfold flushT
      split
      · exact Nat.le_refl _
      · exact flushL_q _ _
    rcases vi.flush with ⟨f0, _, _, vi2⟩ | ⟨f6, _, vi2⟩
    · rw [f0]
      refine br_yes rfl ⟨R st, fun _ => ⟨lb, _, T, U, c0, gm, _, ?_, hd2, vi2, hc, hg, by omega, hT, hU, hUb, st⟩⟩
      simp [rL, hwl2]
    · rw [f6]
      exact br_no rfl ⟨R st, fun _ => ⟨lb, _, T, U, c0, gm, _, e, hd2, vi2, hc, hg, by omega, hT, hU, hUb, st⟩⟩
  clear st full
  rintro n114 h115 ⟨st, full⟩
  refine ⟨fun _ h' => St h h' [pts b35 0 false [.int .i64 o.k, .int .i64 o.i, .slice q ql qc, .slice lp ll lc]] ∧ (k ≤ 28 ∨ o.k ≠ 1 → Fu h [pts b35 0 false [.int .i64 o.k, .int .i64 o.i, .slice q ql qc, .slice lp ll lc]] d vb (ap, al, ac) (bp, bl, bc) n114 (1 + 20 * k) (1 + 9 * k) (60 + 800 * k) (11 + k) k h'), ?_, ?_⟩
  · refine ⟨_, st.cell0 (i := 0) rfl, ?_⟩
    rw [br_beq]
    refine ⟨fun ek => ⟨_, st.cell0 (i := 1) rfl, ?_⟩, fun _ => ⟨st, full⟩⟩
    obtain ⟨lb, V, T, U, c0, gm, sn2, e, hd, vi, hc, hg, hq, hT, hU, hUb, st⟩ := full (.inr (by omega))
    simp only [List.cons_append, List.nil_append] at st
    refine (setFuse_ok st.up3 o.i).mono fun v h120 ⟨hv, st⟩ => ⟨hv, ?_⟩
    have st := st.up3.up3.up3
    exact ⟨R st, fun _ => ⟨lb, ⟨V.s, V.ov, V.L, fuseD V.D o.i⟩, T, U, c0, gm, sn2, e, hd, vi.fuse hofu, hc, hg, hq, hT, hU, hUb, st⟩⟩
  clear st full
  rintro _ h122 ⟨st, full⟩
  refine ⟨fun s h' => St h h' [pts b35 0 false [.int .i64 o.k, .int .i64 o.i, .slice q ql qc, .slice lp ll lc]] ∧ (k ≤ 28 ∨ (o.k ≠ 1 ∧ o.k ≠ 6) → Fu h [pts b35 0 false [.int .i64 o.k, .int .i64 o.i, .slice q ql qc, .slice lp ll lc]] d vb s.1 s.2.1 s.2.2 (3 + 20 * k) (1 + (if o.k = 6 then 1 else 0) + 9 * k) (700 + 800 * k) (11 + k) (k + 1) h'), ?_, ?_⟩
  · refine ⟨_, st.cell0 (i := 0) rfl, ?_⟩
    rw [br_beq]
    refine ⟨fun ek => ⟨_, _, _, st.cell0 (i := 2) rfl, ?_⟩, fun ne => ⟨st, fun hh => (full (by omega)).mono (by omega) (by omega) (by omega) (by omega) (by omega)⟩⟩
    rw [if_pos ek]
    obtain ⟨lb, V, T, U, c0, gm, sn2, rfl, hd, vi, hc, hg, hq, hT, hU, hUb, st⟩ := full (.inr (by omega))
    simp only [List.cons_append, List.nil_append] at st
    obtain ⟨va1, va2, va3, va4, va5, va6, va7⟩ := vi.area
    have hSl := hb.1
    refine (replace_ok hd st.dn3 hb (by omega) vi.wf vi.lwf (by omega) va5 va6 (by omega) (by omega)).mono fun v h129 ⟨hv, rd, rlw, rw_, rq, lb2, st⟩ => ⟨_, hv, ?_⟩
    have hvi := fun hh => vi.replace hsp (by omega) (by omega) hh (rL o.S)
    have hfc := fits_cases (rL o.S) (spN 120) V.s.gen
    generalize replaceT 120 V (rL o.S) = RT at *
    have hbl := (rd_own st.up6.at).1
    have hbl : U.length = bl := by simpa using hbl
    refine ⟨fun s h' => h' = h129 ∧ s = (if RT.1 = 0 then ((q, ql, qc), (none, 0, 0), (ql : Int)) else ((ap, al, ac), (bp, bl, bc), (sn2 : Int))), ?_, ?_⟩
    · rw [br_beq]
      exact ⟨fun e0 => ⟨_, _, _, st.up3.cell0 (i := 2) rfl, by trivial, by rw [if_pos e0]⟩, fun ne => ⟨by trivial, by rw [if_neg ne]⟩⟩
    rintro s135 h136 ⟨rfl, rfl⟩
    rw [br_beq]
    refine ⟨fun e6 => ?_, fun ne6 => ?_⟩
    · rw [if_neg (by omega)]
      dsimp only
      refine ⟨_, _, _, st.up3.cell0 (i := 2) rfl, ?_⟩
      have st := st.up3.up6
      refine st.newBlk fun b140 h141 _ st _ => ?_
      refine St.append (xs := [Sl.v (q, ql, qc)]) st.up1 ⟨rfl, by simp only [src, Nat.one_mul]; exact st.row0 rfl⟩ (by intro v hv; simp only [List.mem_singleton] at hv; subst hv; rfl) rfl (by omega) (by unfold maxLen; omega) fun p142 c144 h145 st _ => ?_
      have st := st.up1.drop.up6.up6.up6.up6.up6.up6
      refine ⟨R st, fun hh => ?_⟩
      have hk28 : k ≤ 28 := by omega
      rcases hvi (by omega) with ⟨g1, g2, _⟩ | ⟨g1, _⟩ | ⟨g1, g2, g3, g4, c', g5, g6, vi2⟩
      · omega
      · omega
      have eU : U.map (·.1.v) ++ [Sl.v (q, ql, qc)] = (U ++ [((q, ql, qc), o.S)]).map (·.1.v) := by simp
      rw [eU] at st
      refine ⟨lb2, RT.2, T, U ++ [((q, ql, qc), o.S)], c', gm + 1, sn2, rfl, rd, by simpa using vi2, by omega, by omega, by omega, hT, by simp; omega, fun x hx => ?_, st⟩
      rcases List.mem_append.1 hx with h | h
      · exact hUb x h
      · rw [List.mem_singleton.1 h]; exact ⟨hb, hS10⟩
    · by_cases e0 : RT.1 = 0
      · rw [if_pos e0]
        have st := ((((St.four10 st).nil 1).blsOld hb).old hb.2.1).up6.up6.up6.up6.up3
        refine ⟨R st, fun hh => ?_⟩
        have hk28 : k ≤ 28 := by omega
        rcases hvi (by omega) with ⟨g1, g2, _⟩ | ⟨g1, g2, _, _, g3, vi2⟩ | ⟨g1, _⟩
        · omega
        · exact ⟨lb2, RT.2, o.S, [], c0 + 2, gm + 1, _, by simp [rL]; omega, rd, vi2, by omega, by omega, by omega, by omega, by simp, fun x hx => (by cases hx), st⟩
        · omega
      · rw [if_neg e0]
        refine ⟨R st.up3, fun hh => ?_⟩
        have hk28 : k ≤ 28 := by omega
        rcases hvi (by omega) with ⟨g1, g2, _, g3⟩ | ⟨g1, _⟩ | ⟨g1, _⟩
        · rw [g3] at st
          exact ⟨lb2, V, T, U, c0, gm, sn2, rfl, hd, vi, by omega, by omega, by omega, hT, by omega, hUb, st.up3⟩
        · omega
        · omega
  clear st full
  rintro ⟨⟨ap, al, ac⟩, ⟨bp, bl, bc⟩, sr⟩ h147 ⟨st, full⟩
  refine ⟨_, st.cell0 (i := 0) rfl, ?_⟩
  rw [br_bne]
  refine ⟨fun ne => ⟨⟨k + 1, vb, rfl, hi1, by omega, st.ext, fun h29 => ?_⟩, hm⟩, fun ek => ?_⟩
  · obtain ⟨lb, V, T, U, c0, gm, sn2, e, hd, vi, hc, hg, hq, hT, hU, hUb, st⟩ := full (.inl (by omega))
    simp only [List.cons_append, List.nil_append] at st
    exact ⟨lb, V, T, U, c0, gm, sn2, e, hd, vi, by omega, by split at hg <;> omega, by omega, by omega, hU, hUb, st.drop⟩
  obtain ⟨lb, V, T, U, c0, gm, sn2, rfl, hd, vi, hc, hg, hq, hT, hU, hUb, st⟩ := full (.inr (by omega))
  rw [if_neg (by omega)] at hg
  simp only [List.cons_append, List.nil_append] at st
  refine ⟨_, _, _, st.cell0 (i := 3) rfl, ?_⟩
  refine (restart_ok ((st.old hlist).up4) vi.wf (by omega)).mono fun v h153 ⟨hv, st⟩ => ⟨hv, ?_⟩
  obtain ⟨c1, s1, y, r1, hc1, hc1', hg1, hg1', hy⟩ := vi.restart hsp (by omega) (by omega) o.list
  obtain ⟨va1, va2, va3, va4, va5, va6, va7⟩ := vi.area
  have st := st.up3.drop.up3.drop
  have hlv1 : Live (restartD V.D o.list) := ⟨rfl, rfl⟩
  generalize restartD V.D o.list = D1 at *
  refine ⟨fun i h' => ∃ (m : Nat) (D : Dev) (c : Nat) (s : Vs), i = m ∧ m ≤ wn ∧ Rest D 120 c s y ∧ Live D ∧ 1 ≤ c ∧ c ≤ 2 + 20 * k + 2 + 2 * m ∧ s.gen ≤ 1 + 9 * k + m ∧
      St h h' [Dv d D, rdo 1 lp ll (o.list.map (Value.int .i64)), pts b35 0 false [.int .i64 o.k, .int .i64 o.i, .slice q ql qc, .slice lp ll lc], rdo 1 ap al (T.map (·.1.v)), rds T, own 1 bp bl bc (U.map (·.1.v))], fun i _ => ((wn : Int) - i).toNat,
    ⟨0, D1, c1, s1, rfl, Nat.zero_le _, r1, hlv1, by omega, by omega, by omega, st⟩, ?_⟩
  clear st hlv1 r1
  rintro i h157 ⟨m, D, c, s, rfl, hmw, r, lv, hc1, hcm, hgm, st⟩
  rw [br_decide]
  refine ⟨fun hlt2 => ⟨by omega, hlt2, ?_⟩, fun hge2 => ?_⟩
  · obtain ⟨a, rfl, hcw⟩ := (hw.ext st.ext).cell (i := m) (by omega)
    have hby := u8_lt (ws[m]'(by omega))
    simp only [deref_some, Int.toNat_natCast, Nat.mul_one]
    refine ⟨_, hcw, by omega, ?_⟩
    have htm : IntKind.wrap .i64 (Int.tmod ((ws[m]'(by omega)).toNat : Int) 4) = (((ws[m]'(by omega)).toNat % 4 : Nat) : Int) := by
      rw [Int.tmod_eq_emod_of_nonneg (by omega), wrap_i64 (by omega) (by omega)]; omega
    rw [htm]
    refine (setFuse_ok st _).mono fun v h161 ⟨hv, st⟩ => ⟨hv, ?_⟩
    have rf := r.fuse (k := (((ws[m]'(by omega)).toNat % 4 : Nat) : Int)) (by omega)
    refine (vopen_any st rf (by omega) hsp (by omega) (by omega)).mono fun v h163 ⟨p1, p2, l3, c4, e5, hv, st⟩ => ⟨_, _, _, _, _, hv, _, _, _, st.up2.cell0 (i := 3) rfl, ?_⟩
    have q2 := vsaveD_q (D := fuseD D (((ws[m]'(by omega)).toNat % 4 : Nat) : Int)) (encV s.next)
    rw [rf.queue] at q2
    refine (restart_ok st (vsaveD_wf rf.wf _) (by simp only [List.length_nil] at q2; omega)).mono fun v h173 ⟨hv, st⟩ => ⟨hv, ?_⟩
    obtain ⟨c', s', r', k1, k2, k3⟩ := rf.within hsp (by omega) hc1 (by omega) (by omega) o.list
    rw [wrap_i64 (n := (m : Int) + 1) (by omega) (by omega)]
    exact ⟨⟨m + 1, _, c', s', by omega, by omega, r', ⟨rfl, rfl⟩, by omega, by omega, by omega, st⟩, by omega⟩
  · obtain rfl : m = wn := by omega
    obtain ⟨k0, k1, k2, vi3⟩ := r.openLive lv hsp (by omega) (by omega) (by omega) d
    have q2 : (saveD D 0 (encV s.next)).2.queue.length ≤ 1 := by
      have := vsaveD_q (D := D) (encV s.next)
      rw [r.queue] at this
      simpa using this
    refine (vopen_ok st r (by omega) hsp (by omega) (by omega)).mono fun v h175 hh => ?_
    rw [k0] at hh
    rcases hh with ⟨_, vb2, lb2, p177, l178, c179, S2, hv, hS2, st⟩ | ⟨h6, _⟩
    rotate_left
    · cases h6
    have hys : ∀ x ∈ y, x.length ≤ 6000 := by
      rw [← r.scan]
      exact scan_small _ _ _ _ _ _ _ fun b hb => by cases hb
    generalize (saveD D 0 (encV s.next)).2 = D2 at *
    refine ⟨_, _, _, _, _, hv, ?_⟩
    have st := st.up4.ownsRds.up4
    have hb2 := bls_own st
    have hbT := bls_rdo (st.drop.drop.drop.drop.drop.drop.drop)
    have hbU := rd_own (st.drop.drop.drop.drop.drop.drop.drop.drop.drop.at)
    have hUl : U.length = bl := by have := hbU.1; simpa using this
    have hl2 := hb2.1
    have hyl : y.length = l178 := by rw [← hS2]; simp [rL, hl2]
    have hy11 : y.length ≤ 11 + k := by
      rcases hy with ⟨h1, _⟩ | h1
      · have := h1.length_le
        simp only [rL, List.length_map] at this
        omega
      · obtain ⟨x, hx, e⟩ := List.mem_map.1 h1
        have := (hUb x hx).2
        rw [← e]
        simp only [rL, List.length_map]
        omega
    have hs6 : ∀ e ∈ S2, e.2.length ≤ 70368744177664 := fun e he => by
      have : e.2 ∈ rL S2 := List.mem_map.2 ⟨e, he, rfl⟩
      rw [hS2] at this
      have := hys _ this
      omega
    refine ⟨fun t h' => h' = h175 ∧ t = (decide ((y.length : Int) ≥ sn2) && decide (y <+: rL T)), ?_, ?_⟩
    · dsimp only
      rw [← hyl, br_decide]
      refine ⟨fun hge3 => ?_, fun hlt3 => ⟨by trivial, by rw [decide_eq_false hlt3]; rfl⟩⟩
      rw [hyl]
      refine (ahead_ok hb2 hbT (by omega) hs6).mono fun v h183 ⟨hv, hh⟩ => ?_
      subst hh
      refine ⟨Ext.refl _, _, hv, by trivial, ?_⟩
      rw [← hyl, decide_eq_true hge3, hS2]; rfl
    rintro t0 h186 ⟨rfl, rfl⟩
    have hfound := found_any hy
    generalize (decide ((y.length : Int) ≥ sn2) && decide (y <+: rL T)) = t0 at *
    refine ⟨fun st h' => h' = h186 ∧ ∃ j : Nat, st.2 = j ∧ j ≤ bl ∧ st.1 = (t0 || (U.take j).any (fun x => decide (y = rL x.2))), fun st _ => ((bl : Int) - st.2).toNat, ⟨rfl, 0, rfl, Nat.zero_le _, by simp⟩, ?_⟩
    rintro ⟨t, j⟩ h190 ⟨rfl, j, rfl, hj, rfl⟩
    dsimp only
    rw [br_decide]
    refine ⟨fun hlt3 => ?_, fun hge3 => ?_⟩
    · have hjU : j < U.length := by omega
      have etk : (U.take (j + 1)).any (fun x => decide (y = rL x.2)) = ((U.take j).any (fun x => decide (y = rL x.2)) || decide (y = rL U[j].2)) := by
        rw [List.take_succ_eq_append_getElem hjU, List.any_append]; simp
      rw [wrap_i64 (n := (j : Int) + 1) (by omega) (by omega), br_and]
      refine ⟨fun ht => ⟨⟨by trivial, j + 1, by omega, by omega, by rw [etk, ← Bool.or_assoc, ht]; rfl⟩, by omega⟩, fun ht => ⟨by omega, hlt3, ?_⟩⟩
      obtain ⟨a, rfl, hcu⟩ := hbU.cell (i := j) (by simpa using hjU)
      rw [List.getElem_map] at hcu
      simp only [deref_some, Int.toNat_natCast, Nat.mul_one]
      refine ⟨_, _, _, hcu, ?_⟩
      refine (same2_ok hb2 ((hUb _ (List.getElem_mem hjU)).1.ext st.ext) (by omega) hs6).mono fun v h196 ⟨hv, hh⟩ => ?_
      subst hh
      refine ⟨Ext.refl _, _, hv, ⟨by trivial, j + 1, by omega, by omega, ?_⟩, by omega⟩
      rw [etk, ← Bool.or_assoc, ht, hS2, Bool.false_or]
    · obtain rfl : j = bl := by omega
      rw [List.take_of_length_le (by omega), hfound]
      refine ⟨fun _ h' => h' = h190, br_no rfl (br_no rfl rfl), ?_⟩
      rintro _ _ rfl
      refine ⟨⟨k + 1, vb2, rfl, hi1, by omega, st.ext, fun h29 => ?_⟩, hm⟩
      have st := (((St.five10 st).ro).nil 1).up5.up5.up5.up5.up5.up4.up4.up4
      refine ⟨lb2, ⟨s.next, false, openL 120 d s.next D2, D2⟩, S2, [], c + 1, s.gen + 1, y.length, by rw [hyl], rfl, by rw [hS2]; exact vi3, by omega, by omega, by dsimp only; omega, by omega, by simp, fun x hx => (by cases hx), st⟩
end Go.Proofs.Ytbmhphnidfpclaa
