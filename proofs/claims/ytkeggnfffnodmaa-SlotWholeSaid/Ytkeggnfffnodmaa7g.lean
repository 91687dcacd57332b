/- Layer 7: the reference's new device, calls by number, and scripts of calls that came in. -/
import Derived.Test.Ytkeggnfffnodmaa7f
set_option linter.unusedVariables false
set_option maxRecDepth 100000
namespace Go.Proofs.Ytkeggnfffnodmaa
open Go Go.Vc Go.Proofs
section
variable {h0 h : Heap} {F : List HP} {b n : Nat} {D : Dev}
theorem rnew_ok (hs : St h0 h F) (n : Nat) (hn : n ≤ 4096) : CallsH Try.prog n_ref07_New #[.int .i64 n] h fun v h' => ∃ b, v = ptr b ∧ St h0 h' (Rv b (newD n) :: F) := by
  refine C_ref07_New n ?_
  unfold F_ref07_New
  refine hs.newBlk fun b h1 _ s _ => ?_
  refine ⟨fun i h' => ∃ (k : Nat) (LP : List Pg) (p : Option Addr) (c : Nat), i = k ∧ k ≤ n ∧ LP.length = k ∧ rL LP = List.replicate k (List.replicate 128 0) ∧ St h0 h' (rC b LP [] (-1) false p c none 0 ++ F), fun i _ => (n - i).toNat,
    ⟨0, [], none, 0, rfl, Nat.zero_le _, rfl, rfl, ?_⟩, ?_⟩
  · simp only [rC, List.cons_append, List.nil_append, List.map_nil, List.length_nil, List.flatten_nil]
    exact (((s.nil 1).nil 2).rdsNil).up1.up2.up3
  rintro i h5 ⟨k, LP, p, c, rfl, hk, hl, hr, s⟩
  simp only [rC, List.cons_append, List.nil_append] at s
  rw [br_decide]
  refine ⟨fun hlt => ?_, fun hge => ⟨b, rfl, ?_⟩⟩
  · simp only [add_mk, Nat.zero_add]
    refine ⟨p, _, c, s.cell0 (i := 0) rfl, make128 s fun b9 h10 s => s.newBlk fun b11 h12 _ s _ => ?_⟩
    have hlen := hl
    refine St.append (xs := [Sl.v (some (Addr.mk b9 0 none), 128, 128)]) s.up3 ⟨rfl, by simp only [src, Nat.one_mul]; exact s.row0 rfl⟩ (by intro v hv; simp only [List.mem_singleton] at hv; subst hv; rfl) rfl (by omega) (by unfold maxLen; omega) fun p13 c15 h16 s _ => ?_
    refine s.up3.store0 (by simp) rfl fun h17 s => ?_
    rw [wrap_i64 (by omega) (by omega)]
    refine ⟨⟨k + 1, LP ++ [((some (Addr.mk b9 0 none), 128, 128), List.replicate 128 0)], p13, c15, by omega, by omega, by simp [hl], ?_, ?_⟩, by omega⟩
    · rw [List.replicate_succ' (n := k), ← hr]; simp only [rL, List.map_append, List.map_cons, List.map_nil]
    · simp only [rC, List.cons_append, List.nil_append, List.map_nil, List.length_nil, List.flatten_nil, List.length_append, List.length_singleton, List.map_append, List.map_cons, List.append_nil] at s ⊢
      have s := (s.up3.rdsOwn).up5.rdsJoin
      have s := s.up3.drop
      exact s.dn3
  · have : k = n := by omega
    subst this
    exact Rv.cl (LP := LP) (QP := []) (p := p) (c := c) (q := none) (qc := 0) hr.symm rfl s

/- ### Calls by number -/
structure OpS where
  k : Int
  i : Int
  b : List UInt8
  list : List Int
def doD (D : Dev) (o : OpS) : (List UInt8 × Int) × Dev :=
  if o.k = 1 then (([], (writeD D o.i o.b).1), (writeD D o.i o.b).2) else if o.k = 2 then (([], (flushD D).1), (flushD D).2) else if o.k = 3 then (([], 0), fuseD D o.i)
  else if o.k = 4 then (([], 0), restartD D o.list) else if o.k = 5 then (readD D o.i, D) else (([], 0), D)
theorem doD_wf {o : OpS} (w : D.Wf n) (h1 : o.i ≤ 9223372036854775807) : (doD D o).2.Wf n := by
  unfold doD
  split; exact writeD_wf w _ _
  split; exact flushD_wf w
  split; exact fuseD_wf w h1
  split; exact restartD_wf w _
  split <;> exact w
theorem opD_q : (opD D).queue.length = D.queue.length := by rw [opD_queue]
theorem writeD_q (i : Int) (xs : List UInt8) : (writeD D i xs).2.queue.length ≤ D.queue.length + 1 := by
  have := @opD_q D
  unfold writeD
  split
  · simp
  · split
    · simp
    · split
      · simp only; omega
      · simp
theorem flushD_q : (flushD D).2.queue.length ≤ D.queue.length := by
  have := @opD_q D
  unfold flushD
  split
  · simp
  · split
    · simp only; omega
    · simp
theorem doD_q {o : OpS} : (doD D o).2.queue.length ≤ D.queue.length + 1 := by
  have h1 := writeD_q (D := D) o.i o.b
  have h2 := @flushD_q D
  unfold doD
  split; exact h1
  split; exact Nat.le_succ_of_le h2
  split; exact Nat.le_succ _
  split; exact Nat.zero_le _
  split <;> exact Nat.le_succ _
abbrev opV (o : OpS) (p : Option Addr) (l c : Nat) (lp : Option Addr) (ll lc : Nat) : Value := .agg #[.int .i64 o.k, .int .i64 o.i, .slice p l c, .slice lp ll lc]
/- ### Scripts -/
def OpR (h : Heap) (cs : List Value) (o : OpS) : Prop := ∃ p l c lp ll lc, cs = [.int .i64 o.k, .int .i64 o.i, .slice p l c, .slice lp ll lc] ∧ Bs h p l o.b ∧ Rd h 1 lp ll (o.list.map (Value.int .i64)) ∧ o.i ≤ 9223372036854775807 ∧ ll = o.list.length
def Ops (h : Heap) (p : Option Addr) (n : Nat) (os : List OpS) : Prop := ∃ rows : List (List Value), rows.length = n ∧ os.length = n ∧ Rd h 4 p n rows.flatten ∧ ∀ i (h1 : i < rows.length) (h2 : i < os.length), OpR h rows[i] os[i]
theorem OpR.ext {h h' : Heap} {cs : List Value} {o : OpS} (r : OpR h cs o) (e : Ext h h') : OpR h' cs o := by
  obtain ⟨p, l, c, lp, ll, lc, a, b, d, f⟩ := r
  exact ⟨p, l, c, lp, ll, lc, a, b.ext e, d.ext e, f⟩
theorem Ops.ext {h h' : Heap} {p : Option Addr} {n : Nat} {os : List OpS} (r : Ops h p n os) (e : Ext h h') : Ops h' p n os := by
  obtain ⟨rows, a, b, c, d⟩ := r
  exact ⟨rows, a, b, c.ext e, fun i h1 h2 => (d i h1 h2).ext e⟩
theorem Ops.len {h : Heap} {p : Option Addr} {n : Nat} {os : List OpS} (r : Ops h p n os) : os.length = n := r.choose_spec.2.1
theorem Ops.get {h : Heap} {p : Option Addr} {n : Nat} {os : List OpS} (r : Ops h p n os) {i : Nat} (hi : i < n) : ∃ b o q l c lp ll lc, ∃ h2 : i < os.length, p = some (Addr.mk b o none) ∧
    Bs h q l os[i].b ∧ Rd h 1 lp ll (os[i].list.map (Value.int .i64)) ∧ os[i].i ≤ 9223372036854775807 ∧ ll = os[i].list.length ∧
    cell h (Addr.mk b (o + i * 4 + 2) none) = some (.slice q l c) ∧ cell h (Addr.mk b (o + i * 4 + 3) none) = some (.slice lp ll lc) ∧
    row h (Addr.mk b (o + i * 4) none) 4 = some #[.int .i64 os[i].k, .int .i64 os[i].i, .slice q l c, .slice lp ll lc] := by
  obtain ⟨rows, h1, h2, h3, h4⟩ := r
  have hsz : ∀ r ∈ rows, r.length = 4 := fun r hr => by
    obtain ⟨j, hj, rfl⟩ := List.mem_iff_getElem.1 hr
    obtain ⟨_, _, _, _, _, _, e, _⟩ := h4 j hj (by omega)
    rw [e]; rfl
  obtain ⟨b, o, e, hc⟩ := rows_get h3 h1 hsz (by omega) hi
  obtain ⟨q, l, c, lp, ll, lc, er, hb, hl, hi1, hi2⟩ := h4 i (by omega) (by omega)
  have c0 := hc 0 (by omega) (by omega) (by rw [er]; simp)
  have c1 := hc 1 (by omega) (by omega) (by rw [er]; simp)
  have c2 := hc 2 (by omega) (by omega) (by rw [er]; simp)
  have c3 := hc 3 (by omega) (by omega) (by rw [er]; simp)
  simp only [er, List.getElem_cons_zero, List.getElem_cons_succ, Nat.add_zero] at c0 c1 c2 c3
  refine ⟨b, o, q, l, c, lp, ll, lc, by omega, e, hb, hl, hi1, hi2, c2, c3, ?_⟩
  have := row_of (h := h) (a := Addr.mk b (o + i * 4) none) [.int .i64 os[i].k, .int .i64 os[i].i, .slice q l c, .slice lp ll lc] fun j hj => by
    rw [add_mk]
    match j, hj with
    | 0, _ => simpa using c0
    | 1, _ => simpa using c1
    | 2, _ => simpa using c2
    | 3, _ => simpa using c3
  simpa using this
def FewO (os : List OpS) (n : Nat) : Prop := os.length ≤ n
end
end Go.Proofs.Ytkeggnfffnodmaa
