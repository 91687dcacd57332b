/- Layer 9: what WalCrashes keeps true; its calls as they came in. -/
import Derived.Test.Ytgeoelahfljefaa9l
import Derived.Test.Ytgeoelahfljefaa9g
set_option linter.unusedVariables false
set_option maxRecDepth 100000
namespace Go.Proofs.Ytgeoelahfljefaa
open Go Go.Vc Go.Proofs
/-- All records that may be there, and how many of them must. -/
def CrI (D : Dev) (L : Lg) (n least : Nat) (all : List (List UInt8)) (sure : Nat) : Prop :=
  ∃ (G : Nat) (B W : List Page) (s f : Nat) (x R lost : List (List UInt8)) (q : Nat), Ep D L n least G B W s f x R ∧ all = x ++ (R ++ lost) ∧ (L.over = false → lost = []) ∧ sure ≤ x.length + q ∧ q ≤ R.length ∧ partsS (R.take q) ≤ f
section
variable {D : Dev} {L : Lg} {n least sure : Nat} {all : List (List UInt8)}
theorem CrI.wf (i : CrI D L n least all sure) : D.Wf n := by
  obtain ⟨G, B, W, s, f, x, R, lost, q, e, _⟩ := i
  exact e.core.wf
theorem CrI.lwf (i : CrI D L n least all sure) : L.Wf n := by
  obtain ⟨G, B, W, s, f, x, R, lost, q, e, _⟩ := i
  exact e.lwf
theorem CrI.fuse (i : CrI D L n least all sure) {k : Int} (hk : k ≤ 9223372036854775807) : CrI (fuseD D k) L n least all sure := by
  obtain ⟨G, B, W, s, f, x, R, lost, q, e, h⟩ := i
  exact ⟨G, B, W, s, f, x, R, lost, q, e.fuse hk, h⟩
theorem CrI.other (i : CrI D L n least all sure) {k : Int} {xs : List UInt8} (hk : k < L.start ∨ (L.start + L.count : Nat) ≤ k) : CrI (writeD D k xs).2 L n least all sure := by
  obtain ⟨G, B, W, s, f, x, R, lost, q, e, h⟩ := i
  exact ⟨G, B, W, s, f, x, R, lost, q, e.other hk, h⟩
theorem CrI.append (i : CrI D L n least all sure) {b : List UInt8} (hb : b.length ≤ 6000) :
    ((appendD L D b).1 = 5 ∧ (appendD L D b).2 = (L, D)) ∨ ((appendD L D b).1 ≠ 5 ∧ CrI (appendD L D b).2.2 (appendD L D b).2.1 n least (all ++ [b]) sure) := by
  obtain ⟨G, B, W, s, f, x, R, lost, q, e, h1, h2, h3, h4, h5⟩ := i
  rcases e.append hb with h | ⟨h0, ho, ho', W', e'⟩ | ⟨h6, ho, W', e'⟩
  · exact .inl h
  · refine .inr ⟨by omega, G, B, W', s, f, x, R ++ [b], [], q, e', ?_, fun _ => rfl, h3, by rw [List.length_append]; omega, by rw [List.take_append_of_le_length h4]; exact h5⟩
    rw [h1, h2 ho]; simp
  · refine .inr ⟨by omega, G, B, W', s, f, x, R, lost ++ [b], q, e', by rw [h1]; simp, (fun h => by rw [ho] at h; cases h), h3, h4, h5⟩
theorem CrI.flush (i : CrI D L n least all sure) :
    ((flushL L D).1 = 0 ∧ (flushL L D).2.1 = L ∧ CrI (flushL L D).2.2 L n least all all.length) ∨ ((flushL L D).1 ≠ 0 ∧ CrI (flushL L D).2.2 (flushL L D).2.1 n least all sure) := by
  obtain ⟨G, B, W, s, f, x, R, lost, q, e, h1, h2, h3, h4, h5⟩ := i
  rcases e.flush with ⟨h0, ho, hl, e'⟩ | ⟨h6, ho, e'⟩
  · refine .inl ⟨h0, hl, G, B, W, s, W.length, x, R, lost, R.length, e', h1, h2, ?_, Nat.le_refl _, ?_⟩
    · rw [h1, h2 ho]; simp
    · obtain ⟨part, hW, _⟩ := e.pages
      rw [List.take_length, hW, List.length_append, recsP_length]
      omega
  · exact .inr ⟨by omega, G, B, W, s, f, x, R, lost, q, e', h1, (fun h => by rw [ho] at h; cases h), h3, h4, h5⟩
theorem CrI.restart (i : CrI D L n least all sure) (hg : L.gen < 255) (hc : L.count < 255) (list : List Int) :
    (scanD (restartD D list) L.start L.count least).1 <+: all ∧ sure ≤ (scanD (restartD D list) L.start L.count least).1.length ∧
    (∀ gen, L.gen < gen → gen < 4294967296 → CrI (restartD D list) ⟨L.d, L.start, L.count, gen, (scanD (restartD D list) L.start L.count least).2, false⟩ n least (scanD (restartD D list) L.start L.count least).1 (scanD (restartD D list) L.start L.count least).1.length) := by
  obtain ⟨G, B, W, s, f, x, R, lost, q, e, h1, h2, h3, h4, h5⟩ := i
  obtain ⟨m, hm, hsc, hq, wf, hQ, hd, tame⟩ := e.crash (by omega) hc list
  refine ⟨?_, ?_, fun gen hg1 hg2 => ?_⟩
  · rw [hsc, h1]
    refine List.prefix_append_right_inj x |>.2 ?_
    exact (List.take_prefix m R).trans (List.prefix_append R lost)
  · rw [hsc, List.length_append, List.length_take]
    have := hq q h4 h5
    omega
  · have lg := e.leastg
    have e' := ep_open (d := L.d) wf e.core.fit hg2 hQ tame hg1 e.least1 (by omega)
    exact ⟨L.gen, _, [], _, 0, _, [], [], 0, e', by simp, fun _ => rfl, by simp, Nat.zero_le _, by simp [partsS]⟩
end
theorem cri_new {d n start count : Nat} (hn : n ≤ 4096) (hr : start + count ≤ n) : CrI (newD n) ⟨d, start, count, 1, 0, false⟩ n 1 [] 0 := by
  have wf := newD_wf hn
  have hz : ∀ j, j < count → Tame 0 j ((newD n).lasts.getD (start + j) []) := fun j hj => by
    have : (newD n).lasts.getD (start + j) [] = zeroP := by
      show (List.replicate n (List.replicate 128 0)).getD (start + j) [] = _
      rw [List.getD_eq_getElem?_getD, List.getElem?_replicate, if_pos (by omega)]; rfl
    rw [this]
    exact tame_zero j
  have e := ep_open (d := d) (least := 1) (gen := 1) (G := 0) wf hr (by omega) rfl hz (by omega) (by omega) (by omega)
  rw [scan_new hr] at e
  exact ⟨0, _, [], _, 0, _, [], [], 0, e, rfl, fun _ => rfl, Nat.zero_le _, Nat.zero_le _, Nat.le_refl _⟩
theorem scanD_small (D : Dev) (start count least : Nat) : ∀ b ∈ (scanD D start count least).1, b.length ≤ 6000 := scan_small _ _ _ _ _ _ _ fun b hb => by cases hb

/- ### Calls that came in -/
structure OpW where
  k : Int
  i : Int
  b : List UInt8
  list : List Int
def OpWR (h : Heap) (cs : List Value) (o : OpW) : Prop := ∃ p l c lp ll lc, cs = [.int .i64 o.k, .int .i64 o.i, .slice p l c, .slice lp ll lc] ∧ l ≤ c ∧ Bs h p l o.b ∧ Rd h 1 lp ll (o.list.map (Value.int .i64)) ∧ o.i ≤ 9223372036854775807 ∧ ll = o.list.length
def OpWs (h : Heap) (p : Option Addr) (n : Nat) (os : List OpW) : Prop := ∃ rows : List (List Value), rows.length = n ∧ os.length = n ∧ Rd h 4 p n rows.flatten ∧ ∀ i (h1 : i < rows.length) (h2 : i < os.length), OpWR h rows[i] os[i]
theorem OpWR.ext {h h' : Heap} {cs : List Value} {o : OpW} (r : OpWR h cs o) (e : Ext h h') : OpWR h' cs o := by
  obtain ⟨p, l, c, lp, ll, lc, a, a2, b, d, f⟩ := r
  exact ⟨p, l, c, lp, ll, lc, a, a2, b.ext e, d.ext e, f⟩
theorem OpWs.ext {h h' : Heap} {p : Option Addr} {n : Nat} {os : List OpW} (r : OpWs h p n os) (e : Ext h h') : OpWs h' p n os := by
  obtain ⟨rows, a, b, c, d⟩ := r
  exact ⟨rows, a, b, c.ext e, fun i h1 h2 => (d i h1 h2).ext e⟩
theorem OpWs.len {h : Heap} {p : Option Addr} {n : Nat} {os : List OpW} (r : OpWs h p n os) : os.length = n := r.choose_spec.2.1
theorem OpWs.get {h : Heap} {p : Option Addr} {n : Nat} {os : List OpW} (r : OpWs h p n os) {i : Nat} (hi : i < n) : ∃ b o q l c lp ll lc, ∃ h2 : i < os.length, p = some (Addr.mk b o none) ∧
    l ≤ c ∧ Bs h q l os[i].b ∧ Rd h 1 lp ll (os[i].list.map (Value.int .i64)) ∧ os[i].i ≤ 9223372036854775807 ∧ ll = os[i].list.length ∧
    cell h (Addr.mk b (o + i * 4 + 2) none) = some (.slice q l c) ∧ cell h (Addr.mk b (o + i * 4 + 3) none) = some (.slice lp ll lc) ∧
    row h (Addr.mk b (o + i * 4) none) 4 = some #[.int .i64 os[i].k, .int .i64 os[i].i, .slice q l c, .slice lp ll lc] := by
  obtain ⟨rows, h1, h2, h3, h4⟩ := r
  have hsz : ∀ r ∈ rows, r.length = 4 := fun r hr => by
    obtain ⟨j, hj, rfl⟩ := List.mem_iff_getElem.1 hr
    obtain ⟨_, _, _, _, _, _, e, _⟩ := h4 j hj (by omega)
    rw [e]; rfl
  obtain ⟨b, o, e, hc⟩ := rows_get h3 h1 hsz (by omega) hi
  obtain ⟨q, l, c, lp, ll, lc, er, hlc, hb, hl, hi1, hi2⟩ := h4 i (by omega) (by omega)
  have c0 := hc 0 (by omega) (by omega) (by rw [er]; simp)
  have c1 := hc 1 (by omega) (by omega) (by rw [er]; simp)
  have c2 := hc 2 (by omega) (by omega) (by rw [er]; simp)
  have c3 := hc 3 (by omega) (by omega) (by rw [er]; simp)
  simp only [er, List.getElem_cons_zero, List.getElem_cons_succ, Nat.add_zero] at c0 c1 c2 c3
  refine ⟨b, o, q, l, c, lp, ll, lc, by omega, e, hlc, hb, hl, hi1, hi2, c2, c3, ?_⟩
  have := row_of (h := h) (a := Addr.mk b (o + i * 4) none) [.int .i64 os[i].k, .int .i64 os[i].i, .slice q l c, .slice lp ll lc] fun j hj => by
    rw [add_mk]
    match j, hj with
    | 0, _ => simpa using c0
    | 1, _ => simpa using c1
    | 2, _ => simpa using c2
    | 3, _ => simpa using c3
  simpa using this
theorem few9_ok {h : Heap} {p : Option Addr} {l c : Nat} {os : List OpW} (hf : OpWs h p l os) (n : Nat) : CallsH Try.prog n_law09_Few #[.slice p l c, .int .i64 n] h fun v h' => (∃ t, v = .bool t ∧ (t = true → os.length ≤ n)) ∧ h' = h := by
  refine C_law09_Few p l c n ?_
  unfold F_law09_Few
  have hlen := hf.len
  refine ⟨fun i h' => h' = h ∧ ∃ k : Nat, i = k ∧ k ≤ l, fun i _ => (l - i).toNat, ⟨rfl, 0, rfl, Nat.zero_le _⟩, ?_⟩
  rintro i h3 ⟨rfl, k, rfl, hk⟩
  have fin : (∃ t, Value.bool (decide ((l : Int) ≤ n)) = .bool t ∧ (t = true → os.length ≤ n)) := ⟨_, rfl, fun ht => by have := of_decide_eq_true ht; omega⟩
  have bad : (∃ t, Value.bool false = .bool t ∧ (t = true → os.length ≤ n)) := ⟨false, rfl, fun ht => by cases ht⟩
  rw [br_decide]
  refine ⟨fun hlt => ?_, fun _ => ⟨fin, by trivial⟩⟩
  rw [br_decide]
  refine ⟨fun h300 => ⟨by omega, hlt, ?_⟩, fun _ => ⟨fin, by trivial⟩⟩
  obtain ⟨b, o, q, ql, qc, lp, ll, lc, h2, rfl, _, hb, hl, _, _, c2, c3, _⟩ := hf.get (i := k) (by omega)
  simp only [deref_some, add_mk, Int.toNat_natCast]
  refine ⟨_, _, _, c2, ?_⟩
  rw [br_decide]
  refine ⟨fun _ => ⟨bad, by trivial⟩, fun _ => ⟨by omega, hlt, _, _, _, c3, ?_⟩⟩
  rw [br_decide]
  refine ⟨fun _ => ⟨bad, by trivial⟩, fun _ => ?_⟩
  rw [wrap_i64 (by omega) (by omega)]
  exact ⟨⟨by trivial, k + 1, by omega, by omega⟩, by omega⟩
abbrev opWShape : Shape := .cons (.int .i64) (.cons (.int .i64) (.cons (.slice (.int .u8)) (.cons (.slice (.int .i64)) .nil)))
theorem ints9_rows {h : Heap} : ∀ {rows : List (List Value)}, (∀ r ∈ rows, Rdb h (.int .i64) r) → ∃ xs : List Int, xs.length = rows.length ∧ rows.flatten = xs.map (Value.int .i64)
  | [], _ => ⟨[], rfl, rfl⟩
  | r :: rs, hr => by
    obtain ⟨xs, h1, h2⟩ := ints9_rows fun x hx => hr x (List.mem_cons_of_mem _ hx)
    obtain ⟨n, e, _⟩ := hr r (List.mem_cons_self ..)
    exact ⟨n :: xs, by simp [h1], by rw [List.flatten_cons, h2, e]; rfl⟩
theorem ints9_rdb {h : Heap} {cs : List Value} (r : Rdb h (.slice (.int .i64)) cs) : ∃ p l c, ∃ xs : List Int, cs = [.slice p l c] ∧ xs.length = l ∧ Rd h 1 p l (xs.map (Value.int .i64)) := by
  obtain ⟨p, l, c, e, _, _, rows, h1, h2, h3⟩ := r
  obtain ⟨xs, g1, g2⟩ := ints9_rows h3
  exact ⟨p, l, c, xs, e, by omega, by rw [← g2]; exact h2⟩
theorem opW_of {h : Heap} {cs : List Value} (r : Rdb h opWShape cs) : ∃ o, OpWR h cs o := by
  obtain ⟨a, r1, e1, ⟨k, ha, hk⟩, b, r2, e2, ⟨x, hb, hx⟩, c, r4, e4, hc, d, r5, e5, hd, hr5⟩ := r
  obtain ⟨p, l, cp, bs, e, h1, h2, h3⟩ := Rdb.bytes hc
  obtain ⟨lp, ll, lc, xs, e', g1, g2⟩ := ints9_rdb hd
  have hr5 : r5 = [] := hr5
  refine ⟨⟨k, x, bs, xs⟩, p, l, cp, lp, ll, lc, ?_, h1, h3, g2, (wf_i64 hx).2, g1.symm⟩
  rw [e1, ha, e2, hb, e4, e, e5, e', hr5]
  rfl
theorem opWs_of {h : Heap} : ∀ {rows : List (List Value)}, (∀ r ∈ rows, Rdb h opWShape r) → ∃ fs : List OpW, fs.length = rows.length ∧ ∀ i (h1 : i < rows.length) (h2 : i < fs.length), OpWR h rows[i] fs[i]
  | [], _ => ⟨[], rfl, fun i h1 => by simp at h1⟩
  | r :: rs, hr => by
    obtain ⟨fs, h1, h2⟩ := opWs_of fun x hx => hr x (List.mem_cons_of_mem _ hx)
    obtain ⟨f, hf⟩ := opW_of (hr r (List.mem_cons_self ..))
    refine ⟨f :: fs, by simp [h1], fun i a b => ?_⟩
    cases i with
    | zero => exact hf
    | succ i => exact h2 i (by simpa using a) (by simpa using b)
theorem opWs_arg {h : Heap} {v : Value} (a : ArgR h (.slice opWShape) v) : ∃ p l c fs, v = .slice p l c ∧ OpWs h p l fs := by
  obtain ⟨p, l, c, e, h1, h2, rows, h3, h4, h5⟩ := a
  obtain ⟨fs, g1, g2⟩ := opWs_of h5
  exact ⟨p, l, c, fs, by simpa using e, rows, h3, by omega, h4, g2⟩
end Go.Proofs.Ytgeoelahfljefaa
