/- Layer 10: VaultReplaces. -/
import Derived.Test.Ytbmhphnidfpclaavk
import Derived.Test.YtbmhphnidfpclaaFi
set_option linter.unusedVariables false
set_option maxRecDepth 100000
namespace Go.Proofs.Ytbmhphnidfpclaa
open Go Go.Vc Go.Proofs
theorem St.five10 {h0 h : Heap} {A B C D E : HP} {F : List HP} (hs : St h0 h (A :: B :: C :: D :: E :: F)) : St h0 h [A, B, C, D, E] := hs.conseq fun m ⟨m1, m2, a1, a2, c1, q1, m3, m4, a3, a4, c2, q2, m5, m6, a5, a6, c3, q3, m7, m8, a7, a8, c4, q4, m9, m10, a9, a10, c5, q5, _⟩ =>
  ⟨m1, m2, a1, a2, c1, q1, m3, m4, a3, a4, c2, q2, m5, m6, a5, a6, c3, q3, m7, m8, a7, a8, c4, q4, m9, m10, a9, a10, c5, q5, trivial⟩
theorem bls_rdo {h0 h : Heap} {F : List HP} {S : List Pg} {p : Option Addr} {l : Nat} (hs : St h0 h (rdo 1 p l (S.map (·.1.v)) :: rds S :: F)) : Bls h p l S :=
  ⟨by have := (rd_rdo hs.at).1; simpa using this, rd_rdo hs.at, fun e he => ⟨rds_cap hs.up1.at he, rds_get hs.up1.at he⟩⟩
theorem slv_one (S : List Pg) : ∀ v ∈ S.map (·.1.v), v.oneCell' = true := fun v hv => by
  obtain ⟨e, _, rfl⟩ := List.mem_map.1 hv
  rfl
theorem fits_three (rs : List (List UInt8)) (sp gen : Nat) : (fitsV rs sp gen == 3) = rs.any (fun b => decide (6000 < b.length)) := by
  unfold fitsV
  split
  · rename_i h; rw [h]; rfl
  · rename_i h
    have h : rs.any (fun b => decide (6000 < b.length)) = false := by simpa using h
    rw [h]
    split
    · rfl
    · split <;> rfl
theorem fits_five {rs : List (List UInt8)} {sp gen : Nat} (h : rs.any (fun b => decide (6000 < b.length)) = false) (hg : gen < 4294967294) : (fitsV rs sp gen == 5) = decide (sp < partsS rs) := by
  unfold fitsV
  rw [h, if_neg (by simp)]
  split
  · rename_i h1; rw [decide_eq_true h1]; rfl
  · rename_i h1; rw [decide_eq_false h1, if_neg (by omega)]; rfl
theorem any_take {rs : List (List UInt8)} {k : Nat} (hk : k < rs.length) : (rs.take (k + 1)).any (fun b => decide (6000 < b.length)) = ((rs.take k).any (fun b => decide (6000 < b.length)) || decide (6000 < rs[k].length)) := by
  rw [List.take_succ_eq_append_getElem hk, List.any_append]
  simp
/-- The pages of a list, counted; whether one is too long. -/
theorem vaultReplaces_ok {h : Heap} {p : Option Addr} {l c : Nat} {os : List OpV} (hf : OpVs h p l os) : CallsH Try.prog n_law10_VaultReplaces #[.slice p l c] h fun v h' => v = .bool true ∧ Ext h h' := by
  refine C_law10_VaultReplaces p l c ?_
  unfold F_law10_VaultReplaces
  have hlen := hf.len
  refine ⟨fun _ h' => (os.length ≤ 10 ∧ ∀ o ∈ os, o.S.length ≤ 10 ∧ (∀ e ∈ o.S, e.2.length ≤ 7000) ∧ o.list.length ≤ 200) ∧ St h h' [], ?_, ?_⟩
  · refine (awake10_ok h).mono fun v h1 ⟨hv, e1⟩ => ⟨e1, true, hv, br_no rfl ?_⟩
    have s := (St.start h).keep e1
    refine (few10_ok (hf.ext s.ext) 10 (by omega)).mono fun v h7 ⟨⟨t, hv, ht⟩, hh⟩ => ?_
    subst hh
    refine ⟨Ext.refl _, t, hv, ?_⟩
    cases t
    · exact br_yes rfl (awake10_end s)
    · exact br_no rfl ⟨ht rfl, s⟩
  rintro _ h14 ⟨⟨hl10, hfew⟩, s⟩
  refine (new_ok h14 30 (by omega)).mono fun v h16 ⟨d, hv, nw⟩ => ⟨nw.ext, some (Addr.mk d 0 none), 0, hv, ?_⟩
  have s := s.join nw
  simp only [List.cons_append, List.nil_append] at s
  have r := rest_new (n := 30) (by omega) (by omega)
  have hsp : spN 30 = 14 := rfl
  obtain ⟨k0, k1, k2, i0⟩ := r.openLive (live_new 30) (by decide) (by omega) (by omega) (by show 0 + 1 < _; omega) d
  refine (vopen_ok s r (by omega) (by decide) (by omega) (by show 0 + 1 < _; omega)).mono fun v h20 hh => ?_
  have q2 : (saveD (newD 30) 0 (encV (Vs.next ⟨false, 1, 0⟩))).2.queue.length ≤ 1 := vsaveD_q (D := newD 30) (encV (Vs.next ⟨false, 1, 0⟩))
  rw [k0] at hh
  generalize (saveD (newD 30) 0 (encV (Vs.next ⟨false, 1, 0⟩))).2 = D1 at *
  rcases hh with ⟨_, vb, lb, p7, l8, c9, S, hv, hS, st⟩ | ⟨h6, _⟩
  rotate_left
  · cases h6
  refine ⟨_, p7, l8, c9, 0, hv, ?_⟩
  have hLd : (openL 30 d (Vs.next ⟨false, 1, 0⟩) D1).d = d := rfl
  have st : St h h20 [Vv vb d (Vs.next ⟨false, 1, 0⟩) (some (Addr.mk lb 0 none)) false, Lv lb (openL 30 d (Vs.next ⟨false, 1, 0⟩) D1), Dv d D1, rdo 1 none 0 (([] : List Pg).map (·.1.v)), rds []] := ((St.three st).rdsNil.nil 1).ro.up4.up4.up4
  refine ⟨fun st h' => ∃ (k lb : Nat) (V : VT) (T : List Pg) (c' gm sure : Nat), st.2 = k ∧ k ≤ l ∧ V.L.d = d ∧ Live V.D ∧ VI V 30 c' gm (rL T) sure [] ∧ c' ≤ 1 + 2 * k ∧ gm ≤ 1 + k ∧ V.D.queue.length ≤ 1 + 700 * k ∧ T.length ≤ 10 + k ∧ (∀ e ∈ T, e.2.length ≤ 7000) ∧
      St h h' [Vv vb d V.s (some (Addr.mk lb 0 none)) V.ov, Lv lb V.L, Dv d V.D, rdo 1 st.1.1 st.1.2.1 (T.map (·.1.v)), rds T], fun st _ => ((l : Int) - st.2).toNat,
    ⟨0, lb, ⟨Vs.next ⟨false, 1, 0⟩, false, openL 30 d (Vs.next ⟨false, 1, 0⟩) D1, D1⟩, [], 1, 0 + 1, 0, rfl, Nat.zero_le _, hLd, k2, i0, by omega, by omega, by dsimp only; omega, by simp, fun e he => (by cases he), st⟩, ?_⟩
  clear st q2
  rintro ⟨⟨wp, wl, wc⟩, i⟩ h29 ⟨k, lb, V, T, c', gm, sure, rfl, hk, hd, lv, vi, hc', hgm, hq, hT, hT7, st⟩
  dsimp only at hT hT7 st ⊢
  rw [br_decide]
  refine ⟨fun hlt => ?_, fun hge => ?_⟩
  · have hkl : k < l := by omega
    obtain ⟨b0, o0, q, ql, qc, lp, ll, lc, hko, rfl, hqlc, hqcm, hb, hlist, _, _, c2, c3, _⟩ := hf.get hkl
    have hcell : ∀ {h'}, Ext h h' → cell h' (Addr.mk b0 (o0 + k * 4 + 2) none) = some (.slice q ql qc) := fun e => e.cell c2
    obtain ⟨hS10, hS7, _⟩ := hfew _ (List.getElem_mem hko)
    have hSl := hb.1
    generalize hSS : os[k].S = S at *
    have hrl : (rL S).length = ql := by simp [rL, hSl]
    have hs7 : ∀ x ∈ rL S, x.length ≤ 7000 := fun x hx => by
      obtain ⟨e, he, rfl⟩ := List.mem_map.1 hx
      exact hS7 e he
    have hpt : ∀ m, partsS ((rL S).take m) ≤ 64 * m := by
      intro m
      induction m with
      | zero => simp [partsS]
      | succ m ih =>
        by_cases hm : m < (rL S).length
        · rw [parts_take hm]
          have := hs7 _ (List.getElem_mem hm)
          have : partsN (rL S)[m].length ≤ 64 := by unfold partsN; omega
          omega
        · rw [List.take_of_length_le (by omega)]
          rw [List.take_of_length_le (by omega)] at ih
          omega
    refine ⟨fun st h' => h' = h29 ∧ ∃ m : Nat, st.2.2 = m ∧ m ≤ ql ∧ st.1 = ((partsS ((rL S).take m) : Nat) : Int) ∧ st.2.1 = ((rL S).take m).any (fun b => decide (6000 < b.length)), fun st _ => ((ql : Int) - st.2.2).toNat, ⟨rfl, 0, rfl, Nat.zero_le _, by simp [partsS], by simp⟩, ?_⟩
    rintro ⟨pg, lg, j⟩ h33 ⟨rfl, m, rfl, hm, rfl, rfl⟩
    dsimp only
    refine ⟨by omega, hlt, ?_⟩
    simp only [deref_some, add_mk, Int.toNat_natCast, Nat.mul_one]
    refine ⟨_, _, _, hcell st.ext, ?_⟩
    rw [br_decide]
    refine ⟨fun hlt2 => ?_, fun hge2 => ?_⟩
    · refine ⟨by omega, hlt, _, _, _, hcell st.ext, by omega, hlt2, ?_⟩
      have hmS : m < S.length := by omega
      have hmr : m < (rL S).length := by omega
      have em : (rL S)[m] = S[m].2 := by simp [rL]
      obtain ⟨a', rfl, hc, hbs⟩ := (hb.ext st.ext).get hmS
      have hbl := hbs.1
      have h7 := hS7 _ (List.getElem_mem hmS)
      simp only [deref_some]
      refine ⟨_, _, _, hc, ?_⟩
      refine (rparts_ok S[m].1.2.1 (by omega)).mono fun v h47 ⟨hv, hh⟩ => ?_
      subst hh
      refine ⟨Ext.refl _, _, hv, ?_⟩
      have hpm := parts_take hmr
      have ham := any_take hmr
      have hptm := hpt m
      have hpn : partsN S[m].1.2.1 ≤ 64 := by unfold partsN; omega
      rw [em, hbl] at hpm ham
      rw [wrap_i64 (by omega) (by omega), wrap_i64 (by omega) (by omega)]
      have hnext : ((partsS ((rL S).take m) : Nat) : Int) + (partsN S[m].1.2.1 : Nat) = ((partsS ((rL S).take (m + 1)) : Nat) : Int) := by omega
      rw [br_and]
      refine ⟨fun ht => ⟨⟨by trivial, m + 1, by omega, by omega, hnext, ?_⟩, by omega⟩, fun ht => ⟨by omega, hlt, _, _, _, hcell st.ext, by omega, hlt2, _, _, _, hc, ⟨by trivial, m + 1, by omega, by omega, hnext, ?_⟩, by omega⟩⟩
      · rw [ham, ht, Bool.true_or]
      · rw [ham, ht, Bool.false_or]
        rw [decide_eq_decide]
        omega
    · obtain rfl : m = ql := by omega
      rw [List.take_of_length_le (by omega)]
      refine ⟨by omega, hlt, _, _, _, hcell st.ext, ?_⟩
      have hptm := hpt m
      rw [List.take_of_length_le (by omega)] at hptm
      obtain ⟨va1, va2, va3, va4, va5, va6, va7⟩ := vi.area
      refine (replace_ok hd st hb (by omega) vi.wf vi.lwf (by omega) va5 va6 (by omega) (by omega)).mono fun v h62 ⟨hv, rd, rlw, rw_, rq, lb2, st⟩ => ⟨_, hv, ?_⟩
      have lv2 := Live.replace (n := 30) lv (rL S)
      have hvi := vi.replace (by decide) (by omega) (by omega) (by omega) (rL S)
      have h3 := fits_three (rL S) (spN 30) V.s.gen
      have h5 := fun hh => fits_five (rs := rL S) (sp := spN 30) (gen := V.s.gen) hh (by omega)
      have key : ((replaceT 30 V (rL S)).1 = fitsV (rL S) (spN 30) V.s.gen) ∧ (((replaceT 30 V (rL S)).1 ≠ 0 ∧ (replaceT 30 V (rL S)).2 = V) ∨ ((replaceT 30 V (rL S)).1 = 0 ∧ (replaceT 30 V (rL S)).2.s.gen = V.s.gen + 1 ∧ VI (replaceT 30 V (rL S)).2 30 (c' + 2) (gm + 1) (rL S) (rL S).length [])) := by
        rcases hvi with ⟨g1, g2, _, g3⟩ | ⟨g1, g2, _, _, g3, g4⟩ | ⟨_, g2, _, _, c'', _, _, g3⟩
        · exact ⟨g1, .inl ⟨by omega, g3⟩⟩
        · exact ⟨by omega, .inr ⟨g1, g3, g4⟩⟩
        · exfalso
          have := g3.overDown g2
          rw [lv2.1] at this; cases this
      clear hvi
      obtain ⟨ke, key⟩ := key
      generalize replaceT 30 V (rL S) = RT at *
      refine ⟨fun _ h' => h' = h62, ?_, ?_⟩
      · refine br_no ?_ ?_
        · rw [ke, h3]; simp
        · rw [br_not, br_and]
          refine ⟨fun _ => by trivial, fun hlo => br_no ?_ (by trivial)⟩
          rw [ke, h5 hlo, hsp]
          simp only [Bool.not_eq_eq_eq_not, Bool.not_false, beq_iff_eq, decide_eq_decide]
          omega
      rintro _ _ rfl
      refine ⟨fun w h' => ∃ (V2 : VT) (T2 : List Pg) (c2 gm2 sure2 : Nat), V2.L.d = d ∧ Live V2.D ∧ VI V2 30 c2 gm2 (rL T2) sure2 [] ∧ c2 ≤ 3 + 2 * k ∧ gm2 ≤ 2 + k ∧ V2.D.queue.length ≤ 601 + 700 * k ∧ T2.length ≤ 10 + k ∧ (∀ e ∈ T2, e.2.length ≤ 7000) ∧
        St h h' [Vv vb d V2.s (some (Addr.mk lb2 0 none)) V2.ov, Lv lb2 V2.L, Dv d V2.D, rdo 1 w.1 w.2.1 (T2.map (·.1.v)), rds T2], ?_, ?_⟩
      · rw [br_beq]
        refine ⟨fun e0 => ?_, fun hne => ?_⟩
        · rcases key with ⟨g1, _⟩ | ⟨_, g3, g4⟩
          · exact absurd e0 g1
          refine st.newBlk fun b68 h69 _ st _ => ⟨by omega, hlt, _, _, _, hcell st.ext, ?_⟩
          have st : St h h69 (own 1 (some (Addr.mk b68 0 none)) 0 0 [] :: Vv vb d RT.2.s (some (Addr.mk lb2 0 none)) RT.2.ov :: Lv lb2 RT.2.L :: Dv d RT.2.D :: [rdo 1 wp wl (T.map (·.1.v)), rds T]) := st.impl fun m q => ⟨rfl, Nat.le_refl _, by unfold maxLen; omega, .inr ⟨b68, 0, [], rfl, rfl, q⟩⟩
          refine St.append (xs := S.map (·.1.v)) st (hb.2.1.ext st.ext) (slv_one S) rfl (by omega) (by unfold maxLen; omega) fun p74 c76 h77 st _ => ?_
          rw [List.nil_append] at st
          have st := (st.blsOld hb).up1.ro
          rw [Nat.zero_add] at st ⊢
          exact ⟨RT.2, S, c' + 2, gm + 1, _, rd, lv2, g4, by omega, by omega, by omega, by omega, hS7, St.five10 (st.up4.up4.up4)⟩
        · rcases key with ⟨_, g2⟩ | ⟨g1, _⟩
          rotate_left
          · exact absurd g1 hne
          rw [g2] at st
          exact ⟨V, T, c', gm, sure, hd, lv, vi, by omega, by omega, by omega, by omega, hT7, st⟩
      clear st lv2 key rd rlw rw_ rq ke
      rintro ⟨wp, wl, wc⟩ h79 ⟨V2, T2, c2, gm2, sure2, rd, lv2, vi2, hc2, hg2, hq2, hT2, hT27, st⟩
      dsimp only at st ⊢
      have hby : ∀ {h' : Heap} {b : Nat} {G : List HP}, St h h' (pts b 0 false #[Value.int .u8 (IntKind.wrap .u8 (k : Int))].toList :: G) → St h h' (own 1 (some (Addr.mk b 0 none)) 1 1 (bcs [UInt8.ofNat k]) :: G) := fun st => st.impl fun m q => ⟨rfl, Nat.le_refl _, by unfold maxLen; omega, .inr ⟨_, 0, [], rfl, rfl, by
        have e : IntKind.wrap .u8 (k : Int) = ((k % 256 : Nat) : Int) := by rw [wrap_u8]; omega
        rw [e] at q
        have e2 : bcs [UInt8.ofNat k] = [.int .u8 ((k % 256 : Nat) : Int)] := by show [bv (UInt8.ofNat k)] = _; rw [byte_of_int]
        rw [e2]
        exact q⟩⟩
      refine st.newBlk fun b80 h81 _ st _ => ?_
      have st := (hby st).ro.up3.up3.up3
      refine (vappend_ok rd st (Nat.le_refl 1) (by omega) vi2.wf vi2.lwf (by omega)).mono fun v h83 ⟨hv, st⟩ => ⟨_, hv, ?_⟩
      have lv3 := lv2.appendT [UInt8.ofNat k]
      have e2 : (appendT V2 [UInt8.ofNat k]).2.L.d = V2.L.d ∧ (appendT V2 [UInt8.ofNat k]).2.s = V2.s ∧ (appendT V2 [UInt8.ofNat k]).2.D.queue.length ≤ V2.D.queue.length + 55 := by
        unfold appendT
        split
        · exact ⟨rfl, rfl, by dsimp only; omega⟩
        · exact ⟨(appendD_lwf vi2.lwf _).2.1, rfl, appendD_q _ _ _⟩
      obtain ⟨rd3, rs3, rq3⟩ := e2
      rw [rd] at rd3
      have va2 := vi2.area.2.2.2.2.2.2
      have hvi := vi2.append (by omega) (b := [UInt8.ofNat k]) (by simp)
      generalize appendT V2 [UInt8.ofNat k] = AT at *
      have hm : ((l : Int) - IntKind.wrap .i64 ((k : Int) + 1)).toNat < ((l : Int) - (k : Int)).toNat := by rw [wrap_i64 (by omega) (by omega)]; omega
      have hi1 : IntKind.wrap .i64 ((k : Int) + 1) = ((k + 1 : Nat) : Int) := by rw [wrap_i64 (by omega) (by omega)]; omega
      have st := st.up3.drop
      rw [br_beq]
      refine ⟨fun e0 => ?_, fun hne => ⟨?_, hm⟩⟩
      · rcases hvi with ⟨g5, _⟩ | ⟨_, _, _, vi3⟩ | ⟨g6, _⟩
        · omega
        rotate_left
        · omega
        refine st.newBlk fun b85 h86 _ st _ => ?_
        have st : St h h86 (own 1 (some (Addr.mk b85 0 none)) 0 0 [] :: Vv vb d AT.2.s (some (Addr.mk lb2 0 none)) AT.2.ov :: Lv lb2 AT.2.L :: Dv d AT.2.D :: [rdo 1 wp wl (T2.map (·.1.v)), rds T2]) := st.impl fun m q => ⟨rfl, Nat.le_refl _, by unfold maxLen; omega, .inr ⟨b85, 0, [], rfl, rfl, q⟩⟩
        have hrd := rd_rdo st.up4.at
        have hwl : T2.length = wl := by have := hrd.1; simpa using this
        refine St.append (xs := T2.map (·.1.v)) st hrd (slv_one T2) rfl (by omega) (by unfold maxLen; omega) fun p87 c89 h90 st _ => ?_
        rw [List.nil_append] at st
        refine st.newBlk fun b91 h92 _ st _ => ?_
        have st := (hby st).rdsOwn.up5.drop.up5.rdsJoin
        refine st.newBlk fun b93 h94 _ st _ => ?_
        refine St.append (xs := [Sl.v (some (Addr.mk b91 0 none), 1, 1)]) st.up2 ⟨rfl, by simp only [src, Nat.one_mul]; exact st.row0 rfl⟩ (by intro v hv; simp only [List.mem_singleton] at hv; subst hv; rfl) rfl (by omega) (by unfold maxLen; omega) fun p95 c97 h98 st _ => ⟨?_, hm⟩
        have st := st.up1.drop.ro
        refine ⟨k + 1, lb2, AT.2, T2 ++ [((some (Addr.mk b91 0 none), 1, 1), [UInt8.ofNat k])], c2, gm2, sure2, hi1, by omega, rd3, lv3, ?_, by omega, by omega, by omega, by simp; omega, fun e he => ?_, ?_⟩
        · have e : rL (T2 ++ [((some (Addr.mk b91 0 none), 1, 1), [UInt8.ofNat k])]) = rL T2 ++ [[UInt8.ofNat k]] := by simp [rL]
          rw [e]; exact vi3
        · rcases List.mem_append.1 he with hh | hh
          · exact hT27 e hh
          · rw [List.mem_singleton.1 hh]; simp
        · rw [List.map_append, List.map_cons, List.map_nil]
          exact st.up4.up4.up4
      · rcases hvi with ⟨g5, g6⟩ | ⟨g0, _⟩ | ⟨_, g2, vi3⟩
        · rw [g6] at st
          refine ⟨k + 1, lb2, V2, T2, c2, gm2, sure2, hi1, by omega, rd, lv2, vi2, by omega, by omega, by omega, by omega, hT27, st⟩
        · exact absurd g0 hne
        · have := vi3.overDown g2
          rw [lv3.1] at this; cases this
  · obtain rfl : k = l := by omega
    refine (vflush_ok hd st vi.wf (by omega)).mono fun v h100 ⟨hv, st⟩ => ⟨_, hv, ?_⟩
    have lv2 := lv.flushT
    rcases vi.flush with ⟨f0, f1, f2, vi2⟩ | ⟨_, f1, vi2⟩
    rotate_left
    · have := vi2.overDown f1
      rw [lv2.1] at this; cases this
    have hq2 : (flushT V).2.D.queue.length ≤ V.D.queue.length := by
      unfold flushT
      split
      · exact Nat.le_refl _
      · exact flushL_q _ _
    have hs2 : (flushT V).2.s = V.s := by unfold flushT; split <;> rfl
    rw [f0]
    generalize (flushT V).2 = V2 at *
    refine br_no rfl ?_
    refine (restart_ok (list := []) (lc := 0) (((st.nil 1).ro).up3) vi2.wf (by omega)).mono fun v h103 ⟨hv, st⟩ => ⟨hv, ?_⟩
    obtain ⟨c3, s3, y, r3, _, hc3, hg3, hg4, hy⟩ := vi2.restart (by decide) (by omega) (by omega) []
    have hy : y = rL T := by
      rcases hy with ⟨h1, h2⟩ | h
      · exact h1.eq_of_length (by have := h1.length_le; omega)
      · cases h
    subst hy
    have lv3 : Live (restartD V2.D []) := ⟨rfl, rfl⟩
    obtain ⟨k0, k1, k2, i3⟩ := r3.openLive lv3 (by decide) (by omega) (by omega) (by omega) d
    refine (vopen_ok st r3 (by omega) (by decide) (by omega) (by omega)).mono fun v h105 hh => ?_
    rw [k0] at hh
    rcases hh with ⟨_, vb2, lb2, p106, l108, c109, S2, hv, hS2, st⟩ | ⟨h6, _⟩
    rotate_left
    · cases h6
    refine ⟨_, p106, l108, c109, 0, hv, br_yes rfl ?_⟩
    have hbT := bls_rdo (st.drop.drop.drop.drop.drop.drop.drop.drop)
    have st := st.up4.ownsRds
    have hb2 := bls_own (st.up4)
    have hbl := hb2.1
    have hsl2 : S2.length = T.length := by have := congrArg List.length hS2; simpa [rL] using this
    refine (same2_ok hb2 hbT (by omega) ?_).mono fun v h112 ⟨hv, hh⟩ => ?_
    · intro e he
      have : e.2 ∈ rL S2 := List.mem_map.2 ⟨e, he, rfl⟩
      rw [hS2] at this
      obtain ⟨e', he', e2⟩ := List.mem_map.1 this
      have := hT7 e' he'
      rw [← e2]
      omega
    subst hh
    exact ⟨Ext.refl _, true, by rw [hv, decide_eq_true hS2], rfl, st.ext⟩
end Go.Proofs.Ytbmhphnidfpclaa
