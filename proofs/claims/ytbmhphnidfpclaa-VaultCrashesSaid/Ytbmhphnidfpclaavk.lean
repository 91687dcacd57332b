/- Layer 10: a device that keeps its power; what the laws ask first; VaultNone. -/
import Derived.Test.Ytbmhphnidfpclaavj
set_option linter.unusedVariables false
set_option maxRecDepth 100000
namespace Go.Proofs.Ytbmhphnidfpclaa
open Go Go.Vc Go.Proofs
def Live (D : Dev) : Prop := D.down = false ∧ D.fuse = -1
theorem Live.op {D : Dev} (l : Live D) : opD D = D := opD_neg (by rw [l.2]; omega)
theorem Live.write {D : Dev} (l : Live D) (i : Int) (xs : List UInt8) : Live (writeD D i xs).2 := by
  unfold writeD
  split
  · exact l
  · split
    · exact l
    · split
      · rw [l.op]; exact l
      · rw [l.op]; exact l
theorem Live.flush {D : Dev} (l : Live D) : Live (flushD D).2 := by
  unfold flushD
  split
  · exact l
  · split
    · rw [l.op]; exact l
    · rw [l.op]; exact l
theorem Live.append {D : Dev} (l : Live D) (L : Lg) (b : List UInt8) : Live (appendD L D b).2.2 := appendD_keep Live (fun D i xs _ _ h => h.write i xs) l
theorem Live.save {D : Dev} (l : Live D) (xs : List UInt8) : Live (saveD D 0 xs).2 := by
  unfold saveD
  split
  · exact l
  · split
    · exact l
    · split
      · exact l
      · split
        · exact l.write _ _
        · split <;> exact (l.write _ _).flush
theorem Live.fill : ∀ (rs : List (List UInt8)) (L : Lg) {D : Dev}, Live D → Live (fillD L D rs).2.2
  | [], L, D, l => by
    unfold fillD flushL
    split
    · exact l
    · exact l.flush
  | b :: rs, L, D, l => by
    rw [fillD]
    split
    · exact l.append L b
    · exact Live.fill rs _ (l.append L b)
theorem Live.replace {n : Nat} {V : VT} (l : Live V.D) (rs : List (List UInt8)) : Live (replaceT n V rs).2.D := by
  unfold replaceT
  split
  · exact l
  · split
    · exact l
    · split
      · exact l.save _
      · unfold replace1
        split
        · exact Live.fill rs _ (l.save _)
        · unfold replace2
          split
          · exact (Live.fill rs _ (l.save _)).save _
          · exact (Live.fill rs _ (l.save _)).save _
theorem Live.appendT {V : VT} (l : Live V.D) (b : List UInt8) : Live (appendT V b).2.D := by
  unfold Proofs.Ytbmhphnidfpclaa.appendT
  split
  · exact l
  · exact l.append _ _
theorem Live.flushT {V : VT} (l : Live V.D) : Live (flushT V).2.D := by
  unfold Proofs.Ytbmhphnidfpclaa.flushT flushL
  split
  · exact l
  · split
    · exact l
    · exact l.flush
theorem VI.overDown {V : VT} {n c gm sure : Nat} {all : List (List UInt8)} {oth : List (List (List UInt8))} (i : VI V n c gm all sure oth) (h : V.ov = true) : V.D.down = true := by
  obtain ⟨x, R, lost, q, _, _, _, _, _, h5⟩ := i
  exact h5 h
theorem VI.live {V : VT} {n c gm sure : Nat} {all : List (List UInt8)} {oth : List (List (List UInt8))} (i : VI V n c gm all sure oth) (l : Live V.D) : V.ov = false := by
  cases h : V.ov
  · rfl
  · have := i.overDown h; rw [l.1] at this; cases this
theorem live_new (n : Nat) : Live (newD n) := ⟨rfl, rfl⟩
/-- A device that keeps its power: the vault is opened. -/
theorem Rest.openLive {D : Dev} {n c : Nat} {s : Vs} {y : List (List UInt8)} (r : Rest D n c s y) (l : Live D) (hs : spN n < 255) (hn : 2 ≤ n) (hc : c + 3 < 18446744073709551616) (hg : s.gen + 1 < 4294967296) (d : Nat) :
    (saveD D 0 (encV s.next)).1.2 = 0 ∧ (scanD (saveD D 0 (encV s.next)).2 (fromN n s.sec) (spN n) s.least).1 = y ∧ Live (saveD D 0 (encV s.next)).2 ∧
      VI ⟨s.next, false, openL n d s.next (saveD D 0 (encV s.next)).2, (saveD D 0 (encV s.next)).2⟩ n (c + 1) (s.gen + 1) y y.length [] := by
  rcases r.open hs hn hc hg d with ⟨h0, h1, h2, h3⟩ | ⟨h6, _⟩
  · exact ⟨h0, h2, l.save _, h3⟩
  · exfalso
    obtain ⟨v, sl, _⟩ := r.slt
    rcases sl.save r.up (by omega) (x := encV s.next) (by rw [encV_length]; omega) with ⟨k0, _⟩ | ⟨_, k1, _⟩
    · omega
    · have := (l.save (encV s.next)).1; rw [k1] at this; cases this

/- ### Calls that came in -/
structure OpV where
  k : Int
  i : Int
  S : List Pg
  list : List Int
def OpVR (h : Heap) (cs : List Value) (o : OpV) : Prop := ∃ p l c lp ll lc, cs = [.int .i64 o.k, .int .i64 o.i, .slice p l c, .slice lp ll lc] ∧ l ≤ c ∧ c ≤ maxLen ∧ Bls h p l o.S ∧ Rd h 1 lp ll (o.list.map (Value.int .i64)) ∧ o.i ≤ 9223372036854775807 ∧ ll = o.list.length
def OpVs (h : Heap) (p : Option Addr) (n : Nat) (os : List OpV) : Prop := ∃ rows : List (List Value), rows.length = n ∧ os.length = n ∧ Rd h 4 p n rows.flatten ∧ ∀ i (h1 : i < rows.length) (h2 : i < os.length), OpVR h rows[i] os[i]
theorem OpVR.ext {h h' : Heap} {cs : List Value} {o : OpV} (r : OpVR h cs o) (e : Ext h h') : OpVR h' cs o := by
  obtain ⟨p, l, c, lp, ll, lc, a, a2, a3, b, d, f⟩ := r
  exact ⟨p, l, c, lp, ll, lc, a, a2, a3, b.ext e, d.ext e, f⟩
theorem OpVs.ext {h h' : Heap} {p : Option Addr} {n : Nat} {os : List OpV} (r : OpVs h p n os) (e : Ext h h') : OpVs h' p n os := by
  obtain ⟨rows, a, b, c, d⟩ := r
  exact ⟨rows, a, b, c.ext e, fun i h1 h2 => (d i h1 h2).ext e⟩
theorem OpVs.len {h : Heap} {p : Option Addr} {n : Nat} {os : List OpV} (r : OpVs h p n os) : os.length = n := r.choose_spec.2.1
theorem OpVs.get {h : Heap} {p : Option Addr} {n : Nat} {os : List OpV} (r : OpVs h p n os) {i : Nat} (hi : i < n) : ∃ b o q l c lp ll lc, ∃ h2 : i < os.length, p = some (Addr.mk b o none) ∧
    l ≤ c ∧ c ≤ maxLen ∧ Bls h q l os[i].S ∧ Rd h 1 lp ll (os[i].list.map (Value.int .i64)) ∧ os[i].i ≤ 9223372036854775807 ∧ ll = os[i].list.length ∧
    cell h (Addr.mk b (o + i * 4 + 2) none) = some (.slice q l c) ∧ cell h (Addr.mk b (o + i * 4 + 3) none) = some (.slice lp ll lc) ∧
    row h (Addr.mk b (o + i * 4) none) 4 = some #[.int .i64 os[i].k, .int .i64 os[i].i, .slice q l c, .slice lp ll lc] := by
  obtain ⟨rows, h1, h2, h3, h4⟩ := r
  have hsz : ∀ r ∈ rows, r.length = 4 := fun r hr => by
    obtain ⟨j, hj, rfl⟩ := List.mem_iff_getElem.1 hr
    obtain ⟨_, _, _, _, _, _, e, _⟩ := h4 j hj (by omega)
    rw [e]; rfl
  obtain ⟨b, o, e, hc⟩ := rows_get h3 h1 hsz (by omega) hi
  obtain ⟨q, l, c, lp, ll, lc, er, hlc, hcm, hb, hl, hi1, hi2⟩ := h4 i (by omega) (by omega)
  have c0 := hc 0 (by omega) (by omega) (by rw [er]; simp)
  have c1 := hc 1 (by omega) (by omega) (by rw [er]; simp)
  have c2 := hc 2 (by omega) (by omega) (by rw [er]; simp)
  have c3 := hc 3 (by omega) (by omega) (by rw [er]; simp)
  simp only [er, List.getElem_cons_zero, List.getElem_cons_succ, Nat.add_zero] at c0 c1 c2 c3
  refine ⟨b, o, q, l, c, lp, ll, lc, by omega, e, hlc, hcm, hb, hl, hi1, hi2, c2, c3, ?_⟩
  have := row_of (h := h) (a := Addr.mk b (o + i * 4) none) [.int .i64 os[i].k, .int .i64 os[i].i, .slice q l c, .slice lp ll lc] fun j hj => by
    rw [add_mk]
    match j, hj with
    | 0, _ => simpa using c0
    | 1, _ => simpa using c1
    | 2, _ => simpa using c2
    | 3, _ => simpa using c3
  simpa using this
theorem few10_ok {h : Heap} {p : Option Addr} {l c : Nat} {os : List OpV} (hf : OpVs h p l os) (n : Nat) (hn : n ≤ 200) : CallsH Try.prog n_law10_Few #[.slice p l c, .int .i64 n] h fun v h' => (∃ t, v = .bool t ∧ (t = true → os.length ≤ n ∧ ∀ o ∈ os, o.S.length ≤ 10 ∧ (∀ e ∈ o.S, e.2.length ≤ 7000) ∧ o.list.length ≤ 200)) ∧ h' = h := by
  refine C_law10_Few p l c n ?_
  unfold F_law10_Few
  have hlen := hf.len
  refine ⟨fun i h' => h' = h ∧ ∃ k : Nat, i = k ∧ k ≤ l ∧ ∀ j (hj : j < os.length), j < k → os[j].S.length ≤ 10 ∧ (∀ e ∈ os[j].S, e.2.length ≤ 7000) ∧ os[j].list.length ≤ 200, fun i _ => (l - i).toNat, ⟨rfl, 0, rfl, Nat.zero_le _, fun j _ h => by omega⟩, ?_⟩
  rintro i h3 ⟨rfl, k, rfl, hk, hall⟩
  have bad : (∃ t, Value.bool false = .bool t ∧ (t = true → os.length ≤ n ∧ ∀ o ∈ os, o.S.length ≤ 10 ∧ (∀ e ∈ o.S, e.2.length ≤ 7000) ∧ o.list.length ≤ 200)) := ⟨false, rfl, fun ht => by cases ht⟩
  have fin : (k : Int) ≥ min (l : Int) 200 → (∃ t, Value.bool (decide ((l : Int) ≤ n)) = .bool t ∧ (t = true → os.length ≤ n ∧ ∀ o ∈ os, o.S.length ≤ 10 ∧ (∀ e ∈ o.S, e.2.length ≤ 7000) ∧ o.list.length ≤ 200)) := fun hkk => ⟨_, rfl, fun ht => by
    have := of_decide_eq_true ht
    refine ⟨by omega, fun o ho => ?_⟩
    obtain ⟨j, hj, rfl⟩ := List.mem_iff_getElem.1 ho
    exact hall j hj (by omega)⟩
  rw [br_decide]
  refine ⟨fun hlt => ?_, fun _ => ⟨fin (by omega), by trivial⟩⟩
  rw [br_decide]
  refine ⟨fun h300 => ⟨by omega, hlt, ?_⟩, fun _ => ⟨fin (by omega), by trivial⟩⟩
  obtain ⟨b, o, q, ql, qc, lp, ll, lc, h2, rfl, _, _, hb, hl, _, hll, c2, c3, _⟩ := hf.get (i := k) (by omega)
  simp only [deref_some, add_mk, Int.toNat_natCast]
  refine ⟨_, _, _, c2, ?_⟩
  refine (few2_ok hb 10 7000 (by omega)).mono fun v h9 ⟨⟨t, hv, ht⟩, hh⟩ => ?_
  subst hh
  refine ⟨Ext.refl _, t, hv, ?_⟩
  cases t
  · exact br_yes rfl ⟨bad, by trivial⟩
  refine br_no rfl ⟨by omega, hlt, _, _, _, c3, ?_⟩
  rw [br_decide]
  refine ⟨fun _ => ⟨bad, by trivial⟩, fun _ => ?_⟩
  rw [wrap_i64 (by omega) (by omega)]
  refine ⟨⟨by trivial, k + 1, by omega, by omega, fun j hj hjk => ?_⟩, by omega⟩
  by_cases hjk' : j = k
  · subst hjk'
    exact ⟨(ht rfl).1, (ht rfl).2, by omega⟩
  · exact hall j hj (by omega)
/-- The first of a call's records. -/
def OpV.one (o : OpV) : Pg := o.S.headD ((none, 0, 0), [])
theorem record_ok {h : Heap} {o : OpV} {q : Option Addr} {l c : Nat} (x y z : Value) (hb : Bls h q l o.S) : CallsH Try.prog n_law10_record #[.agg #[x, y, .slice q l c, z]] h fun v h' => v = .slice o.one.1.1 o.one.1.2.1 o.one.1.2.2 ∧ Ext h h' := by
  refine C_law10_record #[x, y, .slice q l c, z] ?_
  unfold F_law10_record
  refine (St.start h).newBlk fun b0 h1 _ st e => ?_
  simp only [add_mk, Nat.zero_add]
  refine ⟨_, _, _, st.cell0 (i := 2) rfl, ?_⟩
  have hl := hb.1
  unfold OpV.one
  rw [br_beq]
  refine ⟨fun h0 => ?_, fun h0 => ⟨_, _, _, st.cell0 (i := 2) rfl, by omega, by omega, ?_⟩⟩
  · have : o.S = [] := List.eq_nil_of_length_eq_zero (by omega)
    rw [this]
    exact ⟨rfl, e⟩
  · obtain ⟨a, rfl, hc, _⟩ := (hb.ext e).get (i := 0) (by omega)
    simp only [deref_some]
    refine ⟨_, _, _, hc, ?_, e⟩
    have e : o.S.headD ((none, 0, 0), []) = o.S[0]'(by omega) := by rw [List.headD_eq_head?_getD, List.head?_eq_getElem?, List.getElem?_eq_getElem (by omega)]; rfl
    rw [e]
theorem OpV.one_bs {h : Heap} {o : OpV} {q : Option Addr} {l : Nat} (hb : Bls h q l o.S) : Bs h o.one.1.1 o.one.1.2.1 o.one.2 ∧ o.one.1.2.1 ≤ o.one.1.2.2 := by
  unfold OpV.one
  cases hS : o.S with
  | nil => exact ⟨⟨rfl, Rd.nil _ _⟩, Nat.le_refl _⟩
  | cons u v =>
    have := hb.2.2 u (by rw [hS]; exact List.mem_cons_self ..)
    exact ⟨this.2, this.1⟩
theorem intsV_rows {h : Heap} : ∀ {rows : List (List Value)}, (∀ r ∈ rows, Rdb h (.int .i64) r) → ∃ xs : List Int, xs.length = rows.length ∧ rows.flatten = xs.map (Value.int .i64)
  | [], _ => ⟨[], rfl, rfl⟩
  | r :: rs, hr => by
    obtain ⟨xs, h1, h2⟩ := intsV_rows fun x hx => hr x (List.mem_cons_of_mem _ hx)
    obtain ⟨n, e, _⟩ := hr r (List.mem_cons_self ..)
    exact ⟨n :: xs, by simp [h1], by rw [List.flatten_cons, h2, e]; rfl⟩
theorem intsV_rdb {h : Heap} {cs : List Value} (r : Rdb h (.slice (.int .i64)) cs) : ∃ p l c, ∃ xs : List Int, cs = [.slice p l c] ∧ xs.length = l ∧ Rd h 1 p l (xs.map (Value.int .i64)) := by
  obtain ⟨p, l, c, e, _, _, rows, h1, h2, h3⟩ := r
  obtain ⟨xs, g1, g2⟩ := intsV_rows h3
  exact ⟨p, l, c, xs, e, by omega, by rw [← g2]; exact h2⟩
abbrev opVShape : Shape := .cons (.int .i64) (.cons (.int .i64) (.cons (.slice (.slice (.int .u8))) (.cons (.slice (.int .i64)) .nil)))
theorem opV_of {h : Heap} {cs : List Value} (r : Rdb h opVShape cs) : ∃ o, OpVR h cs o := by
  obtain ⟨a, r1, e1, ⟨k, ha, hk⟩, b, r2, e2, ⟨x, hb, hx⟩, c, r4, e4, hc, d, r5, e5, hd, hr5⟩ := r
  obtain ⟨p, l, cp, S, e, h1, h2, h3⟩ := bls_rdb hc
  obtain ⟨lp, ll, lc, xs, e', g1, g2⟩ := intsV_rdb hd
  have hr5 : r5 = [] := hr5
  refine ⟨⟨k, x, S, xs⟩, p, l, cp, lp, ll, lc, ?_, h1, h2, h3, g2, (wf_i64 hx).2, g1.symm⟩
  rw [e1, ha, e2, hb, e4, e, e5, e', hr5]
  rfl
theorem opVs_of {h : Heap} : ∀ {rows : List (List Value)}, (∀ r ∈ rows, Rdb h opVShape r) → ∃ fs : List OpV, fs.length = rows.length ∧ ∀ i (h1 : i < rows.length) (h2 : i < fs.length), OpVR h rows[i] fs[i]
  | [], _ => ⟨[], rfl, fun i h1 => by simp at h1⟩
  | r :: rs, hr => by
    obtain ⟨fs, h1, h2⟩ := opVs_of fun x hx => hr x (List.mem_cons_of_mem _ hx)
    obtain ⟨f, hf⟩ := opV_of (hr r (List.mem_cons_self ..))
    refine ⟨f :: fs, by simp [h1], fun i a b => ?_⟩
    cases i with
    | zero => exact hf
    | succ i => exact h2 i (by simpa using a) (by simpa using b)
theorem opVs_arg {h : Heap} {v : Value} (a : ArgR h (.slice opVShape) v) : ∃ p l c fs, v = .slice p l c ∧ OpVs h p l fs := by
  obtain ⟨p, l, c, e, h1, h2, rows, h3, h4, h5⟩ := a
  obtain ⟨fs, g1, g2⟩ := opVs_of h5
  exact ⟨p, l, c, fs, by simpa using e, rows, h3, by omega, h4, g2⟩
theorem scan_sat {D : Dev} {n c start count least : Nat} {v y : List UInt8} (sl : Slt D n c v none) (hd : D.down = false) (hq : D.queue = []) (hc : c + 2 < 18446744073709551616) (hy : y.length ≤ 110) (h2 : 2 ≤ start) (hr : start + count ≤ n) : scanD (saveD D 0 y).2 start count least = scanD D start count least := by
  rw [scanD_reg, scanD_reg, save_reg sl hd hq hc hy h2 hr]
theorem awake10_ok (h : Heap) : CallsH Try.prog n_law10_awake #[] h fun v h' => v = .bool true ∧ Ext h h' := by
  refine C_law10_awake ?_
  unfold F_law10_awake
  refine (new_ok h 10 (by omega)).mono fun v h1 ⟨d, hv, nw⟩ => ⟨nw.ext, _, 0, hv, ?_⟩
  have r := rest_new (n := 10) (by omega) (by omega)
  obtain ⟨k0, k1, k2, i⟩ := r.openLive (live_new 10) (by decide) (by omega) (by omega) (by show 0 + 1 < _; omega) d
  have hsc := scan_sat (y := encV (Vs.next ⟨false, 1, 0⟩)) (start := 2) (count := 4) (least := 1) (slt_new (n := 10) (by omega) (by omega)) rfl rfl (by omega) (by rw [encV_length]; omega) (by omega) (by omega)
  rw [scan_new (by omega)] at hsc
  refine (vopen_ok nw.st r (by omega) (by decide) (by omega) (by show 0 + 1 < _; omega)).mono fun v h5 hh => ?_
  have w2 := vsaveD_wf (newD_wf (n := 10) (by omega)) (encV (Vs.next ⟨false, 1, 0⟩))
  have q2 := vsaveD_q (D := newD 10) (encV (Vs.next ⟨false, 1, 0⟩))
  rw [k0] at hh
  generalize (saveD (newD 10) 0 (encV (Vs.next ⟨false, 1, 0⟩))).2 = D1 at *
  rcases hh with ⟨_, vb, lb, p7, l8, c9, S, hv, hS, st⟩ | ⟨h6, _⟩
  rotate_left
  · cases h6
  have q2 : D1.queue.length ≤ 1 := q2
  refine ⟨_, p7, l8, c9, 0, hv, br_yes rfl ?_⟩
  refine (space_ok st.at st.up2.at w2 (by omega)).mono fun v h12 ⟨hv, hh⟩ => ?_
  subst hh
  refine ⟨Ext.refl _, _, hv, br_yes rfl ?_⟩
  have hLd : (openL 10 d (Vs.next ⟨false, 1, 0⟩) D1).d = d := rfl
  have hLn : (openL 10 d (Vs.next ⟨false, 1, 0⟩) D1).next = 0 := by
    show (scanD D1 2 4 1).2 = 0
    rw [hsc]
  have hLc : (openL 10 d (Vs.next ⟨false, 1, 0⟩) D1).count = 4 := rfl
  generalize openL 10 d (Vs.next ⟨false, 1, 0⟩) D1 = L1 at *
  refine st.newMark fun b14 h18 st _ => ?_
  have st : St h h18 (own 1 (some (Addr.mk b14 0 none)) 1 1 (bcs [97]) :: Vv vb d (Vs.next ⟨false, 1, 0⟩) (some (Addr.mk lb 0 none)) false :: Lv lb L1 :: Dv d D1 :: own 1 p7 l8 c9 (S.map (·.1.v)) :: owns S :: []) := st.impl fun m q => ⟨rfl, Nat.le_refl _, by unfold maxLen; omega, .inr ⟨b14, 0, [], rfl, rfl, q⟩⟩
  refine (vappend_ok (V := ⟨Vs.next ⟨false, 1, 0⟩, false, L1, D1⟩) hLd st.ro.up3.up3.up3 (Nat.le_refl 1) (by omega) i.wf i.lwf (by dsimp only; omega)).mono fun v h20 ⟨hv, st⟩ => ?_
  have lv := Live.appendT (V := ⟨Vs.next ⟨false, 1, 0⟩, false, L1, D1⟩) k2 [97]
  have hax : (appendT ⟨Vs.next ⟨false, 1, 0⟩, false, L1, D1⟩ [97]).1 = 0 ∧ (appendT ⟨Vs.next ⟨false, 1, 0⟩, false, L1, D1⟩ [97]).2.L.next = 1 ∧ (appendT ⟨Vs.next ⟨false, 1, 0⟩, false, L1, D1⟩ [97]).2.L.count = 4 := by
    obtain ⟨x, R, lost, q, ⟨pd, Lo, lo, xo, Ro, qo, sl, hc1, hl1, hlg, hgm, a, b', hpd⟩, h1, _⟩ := i
    have e1 : (appendT ⟨Vs.next ⟨false, 1, 0⟩, false, L1, D1⟩ [97]).1 = (appendD L1 D1 [97]).1 := rfl
    have e2 : (appendT ⟨Vs.next ⟨false, 1, 0⟩, false, L1, D1⟩ [97]).2.L = (appendD L1 D1 [97]).2.1 := rfl
    rw [e1, e2]
    obtain ⟨_, _, _, l4, _⟩ := appendD_lwf (D := D1) a.lwf [97]
    rcases a.append (b := [97]) (by simp) (by have : L1.gen ≤ 1 := h1; dsimp only; omega) h1 with ⟨_, _, h5⟩ | ⟨h0, _, _⟩ | ⟨_, h6, _⟩
    · exfalso
      have : L1.count < L1.next + partsN [(97 : UInt8)].length := h5
      rw [hLn, hLc] at this
      simp [partsN] at this
    · have := appendD_next h0
      have e : partsN [(97 : UInt8)].length = 1 := rfl
      exact ⟨h0, by rw [this, hLn, e], by rw [l4, hLc]⟩
    · have hl : Live (appendD L1 D1 [97]).2.2 := lv
      rw [hl.1] at h6; cases h6
  have i2 := i.append (by show 0 + 1 < 256; omega) (b := [97]) (by simp)
  rcases i2 with ⟨h5, _⟩ | ⟨_, _, h0, i2⟩ | ⟨h6, _⟩
  · rw [hax.1] at h5; cases h5
  rotate_left
  · rw [hax.1] at h6; cases h6
  rw [hax.1] at hv
  refine ⟨0, hv, br_yes rfl ?_⟩
  have hLd2 : (appendT ⟨Vs.next ⟨false, 1, 0⟩, false, L1, D1⟩ [97]).2.L.d = d := by
    have e2 : (appendT ⟨Vs.next ⟨false, 1, 0⟩, false, L1, D1⟩ [97]).2.L = (appendD L1 D1 [97]).2.1 := rfl
    rw [e2, (appendD_lwf i.lwf [97]).2.1, hLd]
  have hq2 : (appendT ⟨Vs.next ⟨false, 1, 0⟩, false, L1, D1⟩ [97]).2.D.queue.length ≤ 60 := by
    have e2 : (appendT ⟨Vs.next ⟨false, 1, 0⟩, false, L1, D1⟩ [97]).2.D = (appendD L1 D1 [97]).2.2 := rfl
    have := appendD_q L1 D1 [97]
    rw [e2]; omega
  obtain ⟨_, hn2, hc2⟩ := hax
  generalize (appendT ⟨Vs.next ⟨false, 1, 0⟩, false, L1, D1⟩ [97]).2 = V2 at *
  refine (vflush_ok hLd2 st i2.wf (by omega)).mono fun v h23 ⟨hv, st⟩ => ?_
  have lv2 := lv.flushT
  rcases i2.flush with ⟨f0, f1, f2, i3⟩ | ⟨_, f1, i3⟩
  · rw [f0] at hv
    refine ⟨0, hv, br_yes rfl ?_⟩
    rw [f2] at st
    refine (vroom_ok (L := V2.L) (lb := lb) st.at st.up1.at i2.lwf).mono fun v h26 ⟨hv, hh⟩ => ?_
    subst hh
    refine ⟨Ext.refl _, _, hv, ?_, st.ext⟩
    rw [hn2, hc2]; rfl
  · have := i3.overDown f1
    rw [lv2.1] at this; cases this
theorem awake10_end {h0 h : Heap} {l : List HP} (s : St h0 h l) : CallsH Try.prog n_law10_awake #[] h fun v h' => Ext h h' ∧ ∃ t, v = .bool t ∧ (Value.bool t = .bool true ∧ Ext h0 h') :=
  (awake10_ok h).mono fun v h7 ⟨hv, e⟩ => ⟨e, true, hv, rfl, s.ext.trans e⟩
theorem vopen_few {h0 h : Heap} {F : List HP} {d n : Nat} {D : Dev} (hs : St h0 h (Dv d D :: F)) (w : D.Wf n) (h4 : n < 4) : CallsH Try.prog n_vault_Open #[ptr d] h fun v h' => v = .tuple #[.pointer none, .slice none 0 0, .int .i64 1] ∧ h' = h := by
  refine C_vault_Open (some (Addr.mk d 0 none)) ?_
  unfold F_vault_Open
  have hlen := w.len
  refine (pages_ok hs.at).mono fun v h1 ⟨hv, hh⟩ => ?_
  subst hh
  exact ⟨Ext.refl _, _, hv, br_yes (by simp; omega) ⟨rfl, rfl⟩⟩
theorem vopen_nil (h : Heap) : CallsH Try.prog n_vault_Open #[.pointer none] h fun v h' => v = .tuple #[.pointer none, .slice none 0 0, .int .i64 1] ∧ h' = h := by
  refine C_vault_Open none ?_
  unfold F_vault_Open
  refine (pages_nil h).mono fun v h1 ⟨hv, hh⟩ => ?_
  subst hh
  exact ⟨Ext.refl _, _, hv, br_yes rfl ⟨rfl, rfl⟩⟩
theorem vaultNone_ok {h : Heap} {pages : Nat} {p : Option Addr} {l c : Nat} : CallsH Try.prog n_law10_VaultNone #[.int .u8 pages, .slice p l c] h fun v h' => v = .bool true ∧ Ext h h' := by
  refine C_law10_VaultNone pages p l c ?_
  unfold F_law10_VaultNone
  refine (awake10_ok h).mono fun v h1 ⟨hv, e1⟩ => ⟨e1, true, hv, br_no rfl ?_⟩
  have s := (St.start h).keep e1
  rw [br_decide]
  refine ⟨fun _ => awake10_end s, fun _ => ⟨by omega, ?_⟩⟩
  have htm : Int.tmod (pages : Int) 9 = ((pages % 9 : Nat) : Int) := by rw [Int.tmod_eq_emod_of_nonneg (by omega)]; omega
  have hw : IntKind.wrap .i64 (Int.tmod (pages : Int) 9) = ((pages % 9 : Nat) : Int) := by rw [htm, wrap_i64 (by omega) (by omega)]
  rw [hw]
  have hn9 : pages % 9 < 9 := Nat.mod_lt _ (by omega)
  generalize pages % 9 = n at *
  refine (new_ok h1 n (by omega)).mono fun v h10 ⟨d, hv, nw⟩ => ⟨nw.ext, _, 0, hv, ?_⟩
  have s := s.join nw
  simp only [List.cons_append, List.nil_append] at s
  have last : ∀ {h21 : Heap}, Ext h h21 → CallsH Try.prog n_vault_Vault_Append #[.pointer none, .slice p l c] h21 fun v27 h28 => ∃ n29, v27 = .int .i64 n29 ∧ br (n29 == 6)
      (CallsH Try.prog n_vault_Vault_Flush #[.pointer none] h28 fun v30 h31 => ∃ n32, v30 = .int .i64 n32 ∧ br (n32 == 6)
        (CallsH Try.prog n_vault_Vault_Replace #[.pointer none, .slice none 0 0] h31 fun v33 h34 => ∃ n35, v33 = .int .i64 n35 ∧ br (n35 == 6)
          (CallsH Try.prog n_vault_Vault_Room #[.pointer none] h34 fun v36 h37 => Ext h34 h37 ∧ ∃ n38, v36 = .int .i64 n38 ∧ br (n38 == 0)
            (CallsH Try.prog n_vault_Vault_Space #[.pointer none] h37 fun v39 h40 => Ext h37 h40 ∧ ∃ n41, v39 = .int .i64 n41 ∧ (Value.bool (n41 == 0) = .bool true ∧ Ext h h40)) (Value.bool false = .bool true ∧ Ext h h37)) (Value.bool false = .bool true ∧ Ext h h34)) (Value.bool false = .bool true ∧ Ext h h31)) (Value.bool false = .bool true ∧ Ext h h28) := by
    intro h21 e
    refine C_vault_Vault_Append none p l c (br_yes rfl ⟨6, rfl, br_yes rfl ?_⟩)
    refine C_vault_Vault_Flush none (br_yes rfl ⟨6, rfl, br_yes rfl ?_⟩)
    refine C_vault_Vault_Replace none none 0 0 (br_yes rfl ⟨6, rfl, br_yes rfl ?_⟩)
    refine C_vault_Vault_Room none (br_yes rfl ⟨Ext.refl _, 0, rfl, br_yes rfl ?_⟩)
    exact C_vault_Vault_Space none (br_yes rfl ⟨Ext.refl _, 0, rfl, rfl, e⟩)
  by_cases h4 : 4 ≤ n
  · have r := rest_new (n := n) (by omega) (by omega)
    have hsp : spN n < 255 := by unfold spN; omega
    obtain ⟨k0, k1, k2, i⟩ := r.openLive (live_new n) hsp (by omega) (by omega) (by show 0 + 1 < _; omega) d
    refine (vopen_ok s r h4 hsp (by omega) (by show 0 + 1 < _; omega)).mono fun v h14 hh => ?_
    rw [k0] at hh
    rcases hh with ⟨_, vb, lb, p7, l8, c9, S, hv, hS, st⟩ | ⟨h6, _⟩
    rotate_left
    · cases h6
    refine ⟨_, p7, l8, c9, 0, hv, ?_⟩
    refine (vopen_nil h14).mono fun v h21 ⟨hv2, hh⟩ => ?_
    subst hh
    have hl8 : l8 = 0 := by
      have := st.up3.len.1
      have h2 : S = [] := by simpa [rL] using hS
      subst h2
      simpa using this.symm
    subst hl8
    refine ⟨none, none, 0, 0, 1, hv2, br_yes ?_ (br_yes ?_ (br_yes ?_ (br_yes rfl (br_yes rfl (br_yes rfl (last st.ext))))))⟩
    · rw [decide_eq_true (by omega)]; rfl
    · rw [decide_eq_false (by omega)]; rfl
    · rw [decide_eq_false (by omega)]; rfl
  · refine (vopen_few s (newD_wf (n := n) (by omega)) (by omega)).mono fun v h14 ⟨hv, hh⟩ => ?_
    subst hh
    refine ⟨_, none, 0, 0, 1, hv, ?_⟩
    refine (vopen_nil h14).mono fun v h21 ⟨hv, hh⟩ => ?_
    subst hh
    refine ⟨none, none, 0, 0, 1, hv, br_yes ?_ (br_yes ?_ (br_yes ?_ (br_yes rfl (br_yes rfl (br_yes rfl (last s.ext))))))⟩
    · rw [decide_eq_false (by omega)]; rfl
    · rw [decide_eq_true (by omega)]; rfl
    · rw [decide_eq_true (by omega)]; rfl
end Go.Proofs.Ytbmhphnidfpclaa
