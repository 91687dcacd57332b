/- The device of layer 7: what each of its functions does to the part of memory that it owns. -/
import Derived.Test.Ytkeggnfffnodmaa0a
import Derived.Test.YtkeggnfffnodmaaFd
import Derived.Test.YtkeggnfffnodmaaSr
set_option linter.unusedVariables false
set_option maxRecDepth 100000
namespace Go.Proofs.Ytkeggnfffnodmaa
open Go Go.Vc Go.Proofs

/-- A device: what lasts, what waits. -/
structure Dev where
  lasts : List (List UInt8)
  queue : List (Nat × List UInt8)
  fuse : Int
  down : Bool
def applyQ (L : List (List UInt8)) (Q : List (Nat × List UInt8)) : List (List UInt8) := Q.foldl (fun s w => s.set w.1 w.2) L
def Dev.seen (D : Dev) : List (List UInt8) := applyQ D.lasts D.queue
structure Dev.Wf (D : Dev) (n : Nat) : Prop where
  len : D.lasts.length = n
  max : n ≤ 4096
  pages : ∀ p ∈ D.lasts, p.length = 128
  waits : ∀ w ∈ D.queue, w.1 < n ∧ w.2.length = 128
  f0 : -1 ≤ D.fuse
  f1 : D.fuse ≤ 9223372036854775807
theorem applyQ_length : ∀ (Q : List (Nat × List UInt8)) (L : List (List UInt8)), (applyQ L Q).length = L.length
  | [], L => rfl
  | w :: Q, L => by
    have := applyQ_length Q (L.set w.1 w.2)
    simpa [applyQ] using this
theorem applyQ_pages : ∀ {Q : List (Nat × List UInt8)} {L : List (List UInt8)}, (∀ p ∈ L, p.length = 128) → (∀ w ∈ Q, w.2.length = 128) → ∀ p ∈ applyQ L Q, p.length = 128
  | [], L, h1, _ => h1
  | w :: Q, L, h1, h2 => by
    have : applyQ L (w :: Q) = applyQ (L.set w.1 w.2) Q := rfl
    rw [this]
    refine applyQ_pages (fun p hp => ?_) fun x hx => h2 x (List.mem_cons_of_mem _ hx)
    rcases List.mem_or_eq_of_mem_set hp with h | h
    · exact h1 p h
    · rw [h]; exact h2 w (List.mem_cons_self ..)
theorem applyQ_snoc (L : List (List UInt8)) (Q : List (Nat × List UInt8)) (w : Nat × List UInt8) : applyQ L (Q ++ [w]) = (applyQ L Q).set w.1 w.2 := by simp [applyQ]
theorem Dev.Wf.seenLen {D : Dev} {n : Nat} (w : D.Wf n) : D.seen.length = n := by rw [Dev.seen, applyQ_length, w.len]
theorem Dev.Wf.seenPages {D : Dev} {n : Nat} (w : D.Wf n) : ∀ p ∈ D.seen, p.length = 128 := applyQ_pages w.pages fun x hx => (w.waits x hx).2

def pagesC (L : List (List UInt8)) : List Value := (L.map bcs).flatten
def qRow (w : Nat × List UInt8) : List Value := .int .i64 (w.1 : Int) :: bcs w.2
def queueC (Q : List (Nat × List UInt8)) : List Value := (Q.map qRow).flatten
theorem pages_rows {L : List (List UInt8)} (h : ∀ p ∈ L, p.length = 128) : ∀ r ∈ L.map bcs, r.length = 128 := fun r hr => by
  obtain ⟨p, hp, rfl⟩ := List.mem_map.1 hr
  rw [bcs_length, h p hp]
theorem queue_rows {Q : List (Nat × List UInt8)} (h : ∀ w ∈ Q, w.2.length = 128) : ∀ r ∈ Q.map qRow, r.length = 129 := fun r hr => by
  obtain ⟨w, hw, rfl⟩ := List.mem_map.1 hr
  simp [qRow, bcs_length, h w hw]
def Dv (b : Nat) (D : Dev) : HP := fun m => ∃ p c p2 c2 q qc, star [pts b 0 false [.slice p D.lasts.length c, .slice p2 D.lasts.length c2, .slice q D.queue.length qc, .int .i64 D.fuse, .bool D.down],
  own 128 p D.lasts.length c (pagesC D.lasts), own 128 p2 D.lasts.length c2 (pagesC D.seen), own 129 q D.queue.length qc (queueC D.queue)] m
theorem Dv.op {h0 h : Heap} {F : List HP} {b : Nat} {D : Dev} (hs : St h0 h (Dv b D :: F)) : ∃ p c p2 c2 q qc, St h0 h (pts b 0 false [.slice p D.lasts.length c, .slice p2 D.lasts.length c2, .slice q D.queue.length qc, .int .i64 D.fuse, .bool D.down] ::
    own 128 p D.lasts.length c (pagesC D.lasts) :: own 128 p2 D.lasts.length c2 (pagesC D.seen) :: own 129 q D.queue.length qc (queueC D.queue) :: F) := by
  obtain ⟨e, m, ⟨m1, m2, a, b', c', ⟨p, c, p2, c2, q, qc, x⟩, s⟩, t, u⟩ := hs
  exact ⟨p, c, p2, c2, q, qc, e, m, star_flat ⟨m1, m2, a, b', c', x, s⟩, t, u⟩
theorem Dv.cl {h0 h : Heap} {F : List HP} {b : Nat} {D : Dev} {p p2 q : Option Addr} {c c2 qc : Nat} (hs : St h0 h (pts b 0 false [.slice p D.lasts.length c, .slice p2 D.lasts.length c2, .slice q D.queue.length qc, .int .i64 D.fuse, .bool D.down] ::
    own 128 p D.lasts.length c (pagesC D.lasts) :: own 128 p2 D.lasts.length c2 (pagesC D.seen) :: own 129 q D.queue.length qc (queueC D.queue) :: F)) : St h0 h (Dv b D :: F) :=
  (St.pack (l := [_, _, _, _]) hs).impl fun m x => ⟨p, c, p2, c2, q, qc, x⟩
theorem owns_Dv {b : Nat} {D : Dev} : Owns (Dv b D) := fun m ⟨p, c, p2, c2, q, qc, x⟩ => ⟨p, c, p2, c2, q, qc, owns_star (l := [_, _, _, _]) ⟨owns_pts, owns_own, owns_own, owns_own, trivial⟩ m x⟩
theorem Dv.at {h : Heap} {b : Nat} {D : Dev} (a : At h (Dv b D)) : ∃ p c p2 c2 q qc, At h (pts b 0 false [.slice p D.lasts.length c, .slice p2 D.lasts.length c2, .slice q D.queue.length qc, .int .i64 D.fuse, .bool D.down]) ∧
    At h (own 128 p D.lasts.length c (pagesC D.lasts)) ∧ At h (own 128 p2 D.lasts.length c2 (pagesC D.seen)) := by
  obtain ⟨m, s, p, c, p2, c2, q, qc, m1, m2, a1, a2, _, q1, m3, m4, a3, a4, _, q2, m5, m6, a5, a6, _, q3, _⟩ := a
  exact ⟨p, c, p2, c2, q, qc, ⟨m1, s.le a1, q1⟩, ⟨m3, s.le (a3.trans a2), q2⟩, ⟨m5, s.le (a5.trans (a4.trans a2)), q3⟩⟩

/- ### What the functions do -/
def reachE (D : Dev) (i : Int) : Int := if D.down then 6 else if i < 0 ∨ (D.lasts.length : Int) ≤ i then 4 else 0
def readD (D : Dev) (i : Int) : List UInt8 × Int := if reachE D i = 0 then (D.seen.getD i.toNat [], 0) else ([], reachE D i)
def opD (D : Dev) : Dev := if D.fuse = 0 then { D with down := true } else if 0 < D.fuse then { D with fuse := D.fuse - 1 } else D
def writeD (D : Dev) (i : Int) (xs : List UInt8) : Int × Dev :=
  if reachE D i ≠ 0 then (reachE D i, D) else if xs.length ≠ 128 then (1, D) else if (opD D).down then (6, opD D) else (0, { opD D with queue := D.queue ++ [(i.toNat, xs)] })
def flushD (D : Dev) : Int × Dev := if D.down then (6, D) else if (opD D).down then (6, opD D) else (0, { opD D with lasts := D.seen, queue := [] })
def mixed (was b : List UInt8) (t : Int) : List UInt8 := b.take (min (max t 0) 128).toNat ++ was.drop (min (max t 0) 128).toNat
def restL (L : List (List UInt8)) : List (Nat × List UInt8) → List Int → List (List UInt8)
  | [], _ => L
  | w :: Q, [] => restL (L.set w.1 (mixed (L.getD w.1 []) w.2 0)) Q []
  | w :: Q, t :: ts => restL (L.set w.1 (mixed (L.getD w.1 []) w.2 t)) Q ts
def restartD (D : Dev) (list : List Int) : Dev := ⟨restL D.lasts D.queue list, [], -1, false⟩
def fuseD (D : Dev) (n : Int) : Dev := { D with fuse := max n (-1) }
def newD (n : Nat) : Dev := ⟨List.replicate n (List.replicate 128 0), [], -1, false⟩

theorem opD_lasts (D : Dev) : (opD D).lasts = D.lasts := by unfold opD; split; rfl; split <;> rfl
theorem opD_queue (D : Dev) : (opD D).queue = D.queue := by unfold opD; split; rfl; split <;> rfl
theorem opD_wf {D : Dev} {n : Nat} (w : D.Wf n) : (opD D).Wf n := by
  have h1 := w.f0
  have h2 := w.f1
  refine ⟨by rw [opD_lasts]; exact w.len, w.max, by rw [opD_lasts]; exact w.pages, by rw [opD_queue]; exact w.waits, ?_, ?_⟩
  all_goals
    unfold opD
    split
    · assumption
    · split
      · simp only; omega
      · assumption
theorem writeD_wf {D : Dev} {n : Nat} (w : D.Wf n) (i : Int) (xs : List UInt8) : (writeD D i xs).2.Wf n := by
  unfold writeD
  split
  · exact w
  · rename_i hr
    split
    · exact w
    · rename_i hx
      split
      · exact opD_wf w
      · have wo := opD_wf w
        refine ⟨wo.len, wo.max, wo.pages, ?_, wo.f0, wo.f1⟩
        intro y hy
        rcases List.mem_append.1 hy with h | h
        · exact w.waits y h
        · simp only [List.mem_singleton] at h
          subst h
          have hr : reachE D i = 0 := by simpa using hr
          unfold reachE at hr
          rw [w.len] at hr
          refine ⟨?_, by simpa using hx⟩
          split at hr
          · omega
          · split at hr
            · omega
            · simp only; omega
theorem flushD_wf {D : Dev} {n : Nat} (w : D.Wf n) : (flushD D).2.Wf n := by
  unfold flushD
  split
  · exact w
  · split
    · exact opD_wf w
    · have wo := opD_wf w
      exact ⟨w.seenLen, wo.max, w.seenPages, (fun x hx => by cases hx), wo.f0, wo.f1⟩
theorem mixed_length {was b : List UInt8} {t : Int} (h1 : was.length = 128) (h2 : b.length = 128) : (mixed was b t).length = 128 := by
  unfold mixed
  rw [List.length_append, List.length_take, List.length_drop]
  omega
theorem restL_wf {n : Nat} : ∀ (Q : List (Nat × List UInt8)) (L : List (List UInt8)) (list : List Int), L.length = n → (∀ p ∈ L, p.length = 128) → (∀ w ∈ Q, w.1 < n ∧ w.2.length = 128) → (restL L Q list).length = n ∧ ∀ p ∈ restL L Q list, p.length = 128
  | [], L, _, h1, h2, _ => ⟨h1, h2⟩
  | w :: Q, L, list, h1, h2, h3 => by
    have hw := h3 w (List.mem_cons_self ..)
    have step : ∀ t, (∀ p ∈ L.set w.1 (mixed (L.getD w.1 []) w.2 t), p.length = 128) := fun t p hp => by
      rcases List.mem_or_eq_of_mem_set hp with h | h
      · exact h2 p h
      · rw [h]
        refine mixed_length ?_ hw.2
        rw [List.getD_eq_getElem?_getD, List.getElem?_eq_getElem (by omega)]
        exact h2 _ (List.getElem_mem _)
    cases list with
    | nil => exact restL_wf Q _ [] (by simpa using h1) (step 0) fun x hx => h3 x (List.mem_cons_of_mem _ hx)
    | cons t ts => exact restL_wf Q _ ts (by simpa using h1) (step t) fun x hx => h3 x (List.mem_cons_of_mem _ hx)
theorem restartD_wf {D : Dev} {n : Nat} (w : D.Wf n) (list : List Int) : (restartD D list).Wf n := by
  obtain ⟨h1, h2⟩ := restL_wf D.queue D.lasts list w.len w.pages w.waits
  exact ⟨h1, w.max, h2, (fun x hx => by cases hx), by show (-1 : Int) ≤ -1; omega, by show (-1 : Int) ≤ _; omega⟩
theorem fuseD_wf {D : Dev} {n : Nat} (w : D.Wf n) {k : Int} (hk : k ≤ 9223372036854775807) : (fuseD D k).Wf n := ⟨w.len, w.max, w.pages, w.waits, by simp only [fuseD]; omega, by simp only [fuseD]; omega⟩
theorem newD_wf {n : Nat} (h : n ≤ 4096) : (newD n).Wf n := ⟨by simp [newD], h, fun p hp => by simp [newD] at hp; simp [hp.2], (fun x hx => by cases hx), by show (-1 : Int) ≤ -1; omega, by show (-1 : Int) ≤ _; omega⟩

section
variable {h0 h : Heap} {F : List HP} {b n : Nat} {D : Dev}

theorem down_ok (a : At h (Dv b D)) : CallsH Try.prog n_device_Device_Down #[ptr b] h fun v h' => v = .bool D.down ∧ h' = h := by
  refine C_device_Device_Down (some (Addr.mk b 0 none)) ?_
  unfold F_device_Device_Down
  obtain ⟨p, c, p2, c2, q, qc, h1, _⟩ := Dv.at a
  simp only [Option.isNone_some, br_false, deref_some, add_mk, Nat.zero_add]
  exact ⟨_, pts_cell h1 (i := 4) rfl, by trivial, by trivial⟩
theorem reach_ok (a : At h (Dv b D)) (i : Int) : CallsH Try.prog n_device_Device_reach #[ptr b, .int .i64 i] h fun v h' => v = .int .i64 (reachE D i) ∧ h' = h := by
  refine C_device_Device_reach (some (Addr.mk b 0 none)) i ?_
  unfold F_device_Device_reach
  obtain ⟨p, c, p2, c2, q, qc, h1, _⟩ := Dv.at a
  refine (down_ok a).mono fun v h1' ⟨hv, hh⟩ => ?_
  subst hh
  refine ⟨Ext.refl _, _, hv, ?_⟩
  rw [br_and]
  refine ⟨fun hd => ⟨by rw [reachE, if_pos hd], rfl⟩, fun hd => ?_⟩
  rw [br_decide]
  refine ⟨fun hi => ⟨by rw [reachE, if_neg (by simp [hd]), if_pos (.inl hi)], rfl⟩, fun hi => ?_⟩
  simp only [deref_some, add_mk, Nat.add_zero]
  refine ⟨_, _, _, pts_cell h1 (i := 0) rfl, ?_⟩
  rw [br_decide]
  refine ⟨fun hi2 => ⟨by rw [reachE, if_neg (by simp [hd]), if_pos (.inr (by omega))], by trivial⟩, fun hi2 => ⟨by rw [reachE, if_neg (by simp [hd]), if_neg (by omega)], by trivial⟩⟩
theorem reach_in {i : Int} (w : D.Wf n) (h : reachE D i = 0) : D.down = false ∧ 0 ≤ i ∧ i < n := by
  unfold reachE at h
  rw [w.len] at h
  split at h
  · omega
  · rename_i hd
    split at h
    · omega
    · exact ⟨by simpa using hd, by omega, by omega⟩
theorem reach_lt {i : Int} (w : D.Wf n) : 0 ≤ reachE D i ∧ reachE D i ≤ 6 := by
  unfold reachE
  split
  · omega
  · split <;> omega
theorem read_ok (a : At h (Dv b D)) (w : D.Wf n) (i : Int) :
    CallsH Try.prog n_device_Device_Read #[ptr b, .int .i64 i] h fun v h' => ∃ p l c, v = .tuple #[.slice p l c, .int .i64 (readD D i).2] ∧ New h h' [own 1 p l c (bcs (readD D i).1)] := by
  refine C_device_Device_Read (some (Addr.mk b 0 none)) i ?_
  unfold F_device_Device_Read
  obtain ⟨p, c, p2, c2, q, qc, h1, h2, h3⟩ := Dv.at a
  refine (reach_ok a i).mono fun v h1' ⟨hv, hh⟩ => ?_
  subst hh
  refine ⟨Ext.refl _, _, hv, ?_⟩
  rw [br_bne]
  refine ⟨fun hne => ⟨none, 0, 0, by rw [readD, if_neg hne], by rw [readD, if_neg hne]; exact ((St.start h1').nil 1).new ⟨owns_own, trivial⟩⟩, fun heq => ?_⟩
  obtain ⟨hd, hi0, hi1⟩ := reach_in w heq
  obtain ⟨i, rfl⟩ : ∃ k : Nat, i = k := ⟨i.toNat, by omega⟩
  simp only [deref_some, add_mk, Nat.zero_add]
  have hn := w.len
  refine ⟨_, _, _, pts_cell h1 (i := 1) rfl, by omega, by omega, ?_⟩
  have hsl := w.seenLen
  obtain ⟨m, sm, hm⟩ := h3
  have hrd := rd_own (c := c2) ⟨m, sm, hm⟩
  have hrows := pages_rows w.seenPages
  obtain ⟨b2, o2, rfl, hc⟩ := rows_get (i := i) hrd (by simp [hsl, hn]) hrows (by omega) (by omega)
  simp only [deref_some, add_mk, Int.toNat_natCast]
  refine ⟨by omega, by omega, by omega, by omega, ?_⟩
  have hp0 : ∀ q : Option Addr, (if ((128 : Nat) : Int).toNat = 0 then q else q.map fun x => x.add 0) = q := fun q => by cases q <;> simp [add_zero]
  have hlt : i < D.seen.length := by omega
  have hpl := w.seenPages _ (List.getElem_mem hlt)
  have hbs : Bs h1' (some (Addr.mk b2 (o2 + i * 128) none)) 128 D.seen[i] := by
    refine ⟨hpl, by simp [hpl], ?_⟩
    have := row_of (h := h1') (a := Addr.mk b2 (o2 + i * 128) none) (D.seen[i].map bv) fun j hj => by
      rw [add_mk]
      have := hc j (by simp at hj; omega) (by simpa using hlt) (by simpa [bcs_length] using hj)
      simpa [bcs_eq] using this
    simpa [src, hpl] using this
  have hres : readD D (i : Int) = (D.seen[i], 0) := by
    rw [readD, if_pos heq, Int.toNat_natCast, List.getD_eq_getElem?_getD, List.getElem?_eq_getElem hlt]; rfl
  rw [hres]
  simp only [Int.toNat_zero, Nat.zero_mul, Nat.sub_zero, hp0]
  exact (clone_ok hbs (by omega)).mono fun v h12 ⟨p', l', c', hv, nw⟩ => ⟨nw.ext, p', l', c', hv, p', l', c', rfl, nw⟩
theorem operates_ok (hs : St h0 h (Dv b D :: F)) (w : D.Wf n) (hd : D.down = false) :
    CallsH Try.prog n_device_Device_operates #[ptr b] h fun v h' => v = .bool (!(opD D).down) ∧ St h0 h' (Dv b (opD D) :: F) := by
  refine C_device_Device_operates (some (Addr.mk b 0 none)) ?_
  unfold F_device_Device_operates
  obtain ⟨p, c, p2, c2, q, qc, s⟩ := Dv.op hs
  simp only [deref_some, add_mk, Nat.zero_add]
  have hf1 := w.f1
  refine ⟨_, s.cell0 (i := 3) rfl, ?_⟩
  rw [br_beq]
  refine ⟨fun h0 => s.store0 (by simp) rfl fun h3 s => ⟨true, s.cell0 (i := 4) rfl, ?_⟩, fun hn0 => ⟨_, s.cell0 (i := 3) rfl, ?_⟩⟩
  · have e : opD D = { D with down := true } := by rw [opD, if_pos h0]
    rw [e]
    exact ⟨rfl, Dv.cl (D := { D with down := true }) s⟩
  · rw [br_decide]
    refine ⟨fun hpos => ⟨_, s.cell0 (i := 3) rfl, s.store0 (by simp) rfl fun h11 s => ⟨D.down, s.cell0 (i := 4) rfl, ?_⟩⟩, fun hneg => ⟨_, s.cell0 (i := 4) rfl, ?_⟩⟩
    · have e : opD D = { D with fuse := D.fuse - 1 } := by rw [opD, if_neg hn0, if_pos (by omega)]
      rw [wrap_i64 (by omega) (by omega)] at s
      rw [e]
      exact ⟨rfl, Dv.cl (D := { D with fuse := D.fuse - 1 }) s⟩
    · have e : opD D = D := by rw [opD, if_neg hn0, if_neg (by omega)]
      rw [e]
      exact ⟨rfl, Dv.cl s⟩
theorem setFuse_ok (hs : St h0 h (Dv b D :: F)) (k : Int) : CallsH Try.prog n_device_Device_SetFuse #[ptr b, .int .i64 k] h fun v h' => v = unit ∧ St h0 h' (Dv b (fuseD D k) :: F) := by
  refine C_device_Device_SetFuse (some (Addr.mk b 0 none)) k ?_
  unfold F_device_Device_SetFuse
  obtain ⟨p, c, p2, c2, q, qc, s⟩ := Dv.op hs
  simp only [Option.isNone_some, Bool.not_false, br_true, deref_some, Nat.zero_add]
  refine s.store0 (by simp) rfl fun h1 s => ⟨by trivial, Dv.cl (D := fuseD D k) (p := p) (c := c) (p2 := p2) (c2 := c2) (q := q) (qc := qc) ?_⟩
  have e : maxI k (-1) = max k (-1) := by unfold maxI; split <;> omega
  rw [e] at s
  exact s
end
end Go.Proofs.Ytkeggnfffnodmaa
