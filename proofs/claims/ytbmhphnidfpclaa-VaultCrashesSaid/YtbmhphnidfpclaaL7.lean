/- The device of layer 7: what each of its functions does to the part of memory that it owns. -/
import Derived.Test.YtbmhphnidfpclaaL1
import Derived.Test.YtbmhphnidfpclaaFa
import Derived.Test.YtbmhphnidfpclaaS
set_option linter.unusedVariables false
set_option maxRecDepth 100000
namespace Go.Proofs.Ytbmhphnidfpclaa
open Go Go.Vc Go.Proofs

/-- A device: what lasts, what waits. -/
structure Dev where
  lasts : List (List UInt8)
  queue : List (Nat × List UInt8)
  fuse : Int
  down : Bool
def applyQ (L : List (List UInt8)) (Q : List (Nat × List UInt8)) : List (List UInt8) := Q.foldl (fun s w => s.set w.1 w.2) L
def Dev.seen (D : Dev) : List (List UInt8) := applyQ D.lasts D.queue
structure Dev.Wf (D : Dev) (n : Nat) : Prop where
  len : D.lasts.length = n
  max : n ≤ 4096
  pages : ∀ p ∈ D.lasts, p.length = 128
  waits : ∀ w ∈ D.queue, w.1 < n ∧ w.2.length = 128
  f0 : -1 ≤ D.fuse
  f1 : D.fuse ≤ 9223372036854775807
theorem applyQ_length : ∀ (Q : List (Nat × List UInt8)) (L : List (List UInt8)), (applyQ L Q).length = L.length
  | [], L => rfl
  | w :: Q, L => by
    have := applyQ_length Q (L.set w.1 w.2)
    simpa [applyQ] using this
theorem applyQ_pages : ∀ {Q : List (Nat × List UInt8)} {L : List (List UInt8)}, (∀ p ∈ L, p.length = 128) → (∀ w ∈ Q, w.2.length = 128) → ∀ p ∈ applyQ L Q, p.length = 128
  | [], L, h1, _ => h1
  | w :: Q, L, h1, h2 => by
    have : applyQ L (w :: Q) = applyQ (L.set w.1 w.2) Q := rfl
    rw [this]
    refine applyQ_pages (fun p hp => ?_) fun x hx => h2 x (List.mem_cons_of_mem _ hx)
    rcases List.mem_or_eq_of_mem_set hp with h | h
    · exact h1 p h
    · rw [h]; exact h2 w (List.mem_cons_self ..)
theorem applyQ_snoc (L : List (List UInt8)) (Q : List (Nat × List UInt8)) (w : Nat × List UInt8) : applyQ L (Q ++ [w]) = (applyQ L Q).set w.1 w.2 := by simp [applyQ]
theorem Dev.Wf.seenLen {D : Dev} {n : Nat} (w : D.Wf n) : D.seen.length = n := by rw [Dev.seen, applyQ_length, w.len]
theorem Dev.Wf.seenPages {D : Dev} {n : Nat} (w : D.Wf n) : ∀ p ∈ D.seen, p.length = 128 := applyQ_pages w.pages fun x hx => (w.waits x hx).2

def pagesC (L : List (List UInt8)) : List Value := (L.map bcs).flatten
def qRow (w : Nat × List UInt8) : List Value := .int .i64 (w.1 : Int) :: bcs w.2
def queueC (Q : List (Nat × List UInt8)) : List Value := (Q.map qRow).flatten
theorem pages_rows {L : List (List UInt8)} (h : ∀ p ∈ L, p.length = 128) : ∀ r ∈ L.map bcs, r.length = 128 := fun r hr => by
  obtain ⟨p, hp, rfl⟩ := List.mem_map.1 hr
  rw [bcs_length, h p hp]
theorem queue_rows {Q : List (Nat × List UInt8)} (h : ∀ w ∈ Q, w.2.length = 128) : ∀ r ∈ Q.map qRow, r.length = 129 := fun r hr => by
  obtain ⟨w, hw, rfl⟩ := List.mem_map.1 hr
  simp [qRow, bcs_length, h w hw]
def Dv (b : Nat) (D : Dev) : HP := fun m => ∃ p c p2 c2 q qc, star [pts b 0 false [.slice p D.lasts.length c, .slice p2 D.lasts.length c2, .slice q D.queue.length qc, .int .i64 D.fuse, .bool D.down],
  own 128 p D.lasts.length c (pagesC D.lasts), own 128 p2 D.lasts.length c2 (pagesC D.seen), own 129 q D.queue.length qc (queueC D.queue)] m
theorem Dv.op {h0 h : Heap} {F : List HP} {b : Nat} {D : Dev} (hs : St h0 h (Dv b D :: F)) : ∃ p c p2 c2 q qc, St h0 h (pts b 0 false [.slice p D.lasts.length c, .slice p2 D.lasts.length c2, .slice q D.queue.length qc, .int .i64 D.fuse, .bool D.down] ::
    own 128 p D.lasts.length c (pagesC D.lasts) :: own 128 p2 D.lasts.length c2 (pagesC D.seen) :: own 129 q D.queue.length qc (queueC D.queue) :: F) := by
  obtain ⟨e, m, ⟨m1, m2, a, b', c', ⟨p, c, p2, c2, q, qc, x⟩, s⟩, t, u⟩ := hs
  exact ⟨p, c, p2, c2, q, qc, e, m, star_flat ⟨m1, m2, a, b', c', x, s⟩, t, u⟩
theorem Dv.cl {h0 h : Heap} {F : List HP} {b : Nat} {D : Dev} {p p2 q : Option Addr} {c c2 qc : Nat} (hs : St h0 h (pts b 0 false [.slice p D.lasts.length c, .slice p2 D.lasts.length c2, .slice q D.queue.length qc, .int .i64 D.fuse, .bool D.down] ::
    own 128 p D.lasts.length c (pagesC D.lasts) :: own 128 p2 D.lasts.length c2 (pagesC D.seen) :: own 129 q D.queue.length qc (queueC D.queue) :: F)) : St h0 h (Dv b D :: F) :=
  (St.pack (l := [_, _, _, _]) hs).impl fun m x => ⟨p, c, p2, c2, q, qc, x⟩
theorem owns_Dv {b : Nat} {D : Dev} : Owns (Dv b D) := fun m ⟨p, c, p2, c2, q, qc, x⟩ => ⟨p, c, p2, c2, q, qc, owns_star (l := [_, _, _, _]) ⟨owns_pts, owns_own, owns_own, owns_own, trivial⟩ m x⟩
theorem Dv.at {h : Heap} {b : Nat} {D : Dev} (a : At h (Dv b D)) : ∃ p c p2 c2 q qc, At h (pts b 0 false [.slice p D.lasts.length c, .slice p2 D.lasts.length c2, .slice q D.queue.length qc, .int .i64 D.fuse, .bool D.down]) ∧
    At h (own 128 p D.lasts.length c (pagesC D.lasts)) ∧ At h (own 128 p2 D.lasts.length c2 (pagesC D.seen)) := by
  obtain ⟨m, s, p, c, p2, c2, q, qc, m1, m2, a1, a2, _, q1, m3, m4, a3, a4, _, q2, m5, m6, a5, a6, _, q3, _⟩ := a
  exact ⟨p, c, p2, c2, q, qc, ⟨m1, s.le a1, q1⟩, ⟨m3, s.le (a3.trans a2), q2⟩, ⟨m5, s.le (a5.trans (a4.trans a2)), q3⟩⟩

/- ### What the functions do -/
def reachE (D : Dev) (i : Int) : Int := if D.down then 6 else if i < 0 ∨ (D.lasts.length : Int) ≤ i then 4 else 0
def readD (D : Dev) (i : Int) : List UInt8 × Int := if reachE D i = 0 then (D.seen.getD i.toNat [], 0) else ([], reachE D i)
def opD (D : Dev) : Dev := if D.fuse = 0 then { D with down := true } else if 0 < D.fuse then { D with fuse := D.fuse - 1 } else D
def writeD (D : Dev) (i : Int) (xs : List UInt8) : Int × Dev :=
  if reachE D i ≠ 0 then (reachE D i, D) else if xs.length ≠ 128 then (1, D) else if (opD D).down then (6, opD D) else (0, { opD D with queue := D.queue ++ [(i.toNat, xs)] })
def flushD (D : Dev) : Int × Dev := if D.down then (6, D) else if (opD D).down then (6, opD D) else (0, { opD D with lasts := D.seen, queue := [] })
def mixed (was b : List UInt8) (t : Int) : List UInt8 := b.take (min (max t 0) 128).toNat ++ was.drop (min (max t 0) 128).toNat
def restL (L : List (List UInt8)) : List (Nat × List UInt8) → List Int → List (List UInt8)
  | [], _ => L
  | w :: Q, [] => restL (L.set w.1 (mixed (L.getD w.1 []) w.2 0)) Q []
  | w :: Q, t :: ts => restL (L.set w.1 (mixed (L.getD w.1 []) w.2 t)) Q ts
def restartD (D : Dev) (list : List Int) : Dev := ⟨restL D.lasts D.queue list, [], -1, false⟩
def fuseD (D : Dev) (n : Int) : Dev := { D with fuse := max n (-1) }
def newD (n : Nat) : Dev := ⟨List.replicate n (List.replicate 128 0), [], -1, false⟩

theorem opD_lasts (D : Dev) : (opD D).lasts = D.lasts := by unfold opD; split; rfl; split <;> rfl
theorem opD_queue (D : Dev) : (opD D).queue = D.queue := by unfold opD; split; rfl; split <;> rfl
theorem opD_wf {D : Dev} {n : Nat} (w : D.Wf n) : (opD D).Wf n := by
  have h1 := w.f0
  have h2 := w.f1
  refine ⟨by rw [opD_lasts]; exact w.len, w.max, by rw [opD_lasts]; exact w.pages, by rw [opD_queue]; exact w.waits, ?_, ?_⟩
  all_goals
    unfold opD
    split
    · assumption
    · split
      · simp only; omega
      · assumption
theorem writeD_wf {D : Dev} {n : Nat} (w : D.Wf n) (i : Int) (xs : List UInt8) : (writeD D i xs).2.Wf n := by
  unfold writeD
  split
  · exact w
  · rename_i hr
    split
    · exact w
    · rename_i hx
      split
      · exact opD_wf w
      · have wo := opD_wf w
        refine ⟨wo.len, wo.max, wo.pages, ?_, wo.f0, wo.f1⟩
        intro y hy
        rcases List.mem_append.1 hy with h | h
        · exact w.waits y h
        · simp only [List.mem_singleton] at h
          subst h
          have hr : reachE D i = 0 := by simpa using hr
          unfold reachE at hr
          rw [w.len] at hr
          refine ⟨?_, by simpa using hx⟩
          split at hr
          · omega
          · split at hr
            · omega
            · simp only; omega
theorem flushD_wf {D : Dev} {n : Nat} (w : D.Wf n) : (flushD D).2.Wf n := by
  unfold flushD
  split
  · exact w
  · split
    · exact opD_wf w
    · have wo := opD_wf w
      exact ⟨w.seenLen, wo.max, w.seenPages, (fun x hx => by cases hx), wo.f0, wo.f1⟩
theorem mixed_length {was b : List UInt8} {t : Int} (h1 : was.length = 128) (h2 : b.length = 128) : (mixed was b t).length = 128 := by
  unfold mixed
  rw [List.length_append, List.length_take, List.length_drop]
  omega
theorem restL_wf {n : Nat} : ∀ (Q : List (Nat × List UInt8)) (L : List (List UInt8)) (list : List Int), L.length = n → (∀ p ∈ L, p.length = 128) → (∀ w ∈ Q, w.1 < n ∧ w.2.length = 128) → (restL L Q list).length = n ∧ ∀ p ∈ restL L Q list, p.length = 128
  | [], L, _, h1, h2, _ => ⟨h1, h2⟩
  | w :: Q, L, list, h1, h2, h3 => by
    have hw := h3 w (List.mem_cons_self ..)
    have step : ∀ t, (∀ p ∈ L.set w.1 (mixed (L.getD w.1 []) w.2 t), p.length = 128) := fun t p hp => by
      rcases List.mem_or_eq_of_mem_set hp with h | h
      · exact h2 p h
      · rw [h]
        refine mixed_length ?_ hw.2
        rw [List.getD_eq_getElem?_getD, List.getElem?_eq_getElem (by omega)]
        exact h2 _ (List.getElem_mem _)
    cases list with
    | nil => exact restL_wf Q _ [] (by simpa using h1) (step 0) fun x hx => h3 x (List.mem_cons_of_mem _ hx)
    | cons t ts => exact restL_wf Q _ ts (by simpa using h1) (step t) fun x hx => h3 x (List.mem_cons_of_mem _ hx)
theorem restartD_wf {D : Dev} {n : Nat} (w : D.Wf n) (list : List Int) : (restartD D list).Wf n := by
  obtain ⟨h1, h2⟩ := restL_wf D.queue D.lasts list w.len w.pages w.waits
  exact ⟨h1, w.max, h2, (fun x hx => by cases hx), by show (-1 : Int) ≤ -1; omega, by show (-1 : Int) ≤ _; omega⟩
theorem fuseD_wf {D : Dev} {n : Nat} (w : D.Wf n) {k : Int} (hk : k ≤ 9223372036854775807) : (fuseD D k).Wf n := ⟨w.len, w.max, w.pages, w.waits, by simp only [fuseD]; omega, by simp only [fuseD]; omega⟩
theorem newD_wf {n : Nat} (h : n ≤ 4096) : (newD n).Wf n := ⟨by simp [newD], h, fun p hp => by simp [newD] at hp; simp [hp.2], (fun x hx => by cases hx), by show (-1 : Int) ≤ -1; omega, by show (-1 : Int) ≤ _; omega⟩

section
variable {h0 h : Heap} {F : List HP} {b n : Nat} {D : Dev}

theorem down_ok (a : At h (Dv b D)) : CallsH Try.prog n_device_Device_Down #[ptr b] h fun v h' => v = .bool D.down ∧ h' = h := by
  refine C_device_Device_Down (some (Addr.mk b 0 none)) ?_
  unfold F_device_Device_Down
  obtain ⟨p, c, p2, c2, q, qc, h1, _⟩ := Dv.at a
  simp only [Option.isNone_some, br_false, deref_some, add_mk, Nat.zero_add]
  exact ⟨_, pts_cell h1 (i := 4) rfl, by trivial, by trivial⟩
theorem pages_ok (a : At h (Dv b D)) : CallsH Try.prog n_device_Device_Pages #[ptr b] h fun v h' => v = .int .i64 (D.lasts.length : Nat) ∧ h' = h := by
  refine C_device_Device_Pages (some (Addr.mk b 0 none)) ?_
  unfold F_device_Device_Pages
  obtain ⟨p, c, p2, c2, q, qc, h1, _⟩ := Dv.at a
  simp only [Option.isNone_some, br_false, deref_some, add_mk, Nat.add_zero]
  exact ⟨_, _, _, pts_cell h1 (i := 0) rfl, by trivial, by trivial⟩
theorem reach_ok (a : At h (Dv b D)) (i : Int) : CallsH Try.prog n_device_Device_reach #[ptr b, .int .i64 i] h fun v h' => v = .int .i64 (reachE D i) ∧ h' = h := by
  refine C_device_Device_reach (some (Addr.mk b 0 none)) i ?_
  unfold F_device_Device_reach
  obtain ⟨p, c, p2, c2, q, qc, h1, _⟩ := Dv.at a
  refine (down_ok a).mono fun v h1' ⟨hv, hh⟩ => ?_
  subst hh
  refine ⟨Ext.refl _, _, hv, ?_⟩
  rw [br_and]
  refine ⟨fun hd => ⟨by rw [reachE, if_pos hd], rfl⟩, fun hd => ?_⟩
  rw [br_decide]
  refine ⟨fun hi => ⟨by rw [reachE, if_neg (by simp [hd]), if_pos (.inl hi)], rfl⟩, fun hi => ?_⟩
  simp only [deref_some, add_mk, Nat.add_zero]
  refine ⟨_, _, _, pts_cell h1 (i := 0) rfl, ?_⟩
  rw [br_decide]
  refine ⟨fun hi2 => ⟨by rw [reachE, if_neg (by simp [hd]), if_pos (.inr (by omega))], by trivial⟩, fun hi2 => ⟨by rw [reachE, if_neg (by simp [hd]), if_neg (by omega)], by trivial⟩⟩
theorem reach_in {i : Int} (w : D.Wf n) (h : reachE D i = 0) : D.down = false ∧ 0 ≤ i ∧ i < n := by
  unfold reachE at h
  rw [w.len] at h
  split at h
  · omega
  · rename_i hd
    split at h
    · omega
    · exact ⟨by simpa using hd, by omega, by omega⟩
theorem reach_lt {i : Int} (w : D.Wf n) : 0 ≤ reachE D i ∧ reachE D i ≤ 6 := by
  unfold reachE
  split
  · omega
  · split <;> omega
theorem read_ok (a : At h (Dv b D)) (w : D.Wf n) (i : Int) :
    CallsH Try.prog n_device_Device_Read #[ptr b, .int .i64 i] h fun v h' => ∃ p l c, v = .tuple #[.slice p l c, .int .i64 (readD D i).2] ∧ New h h' [own 1 p l c (bcs (readD D i).1)] := by
  refine C_device_Device_Read (some (Addr.mk b 0 none)) i ?_
  unfold F_device_Device_Read
  obtain ⟨p, c, p2, c2, q, qc, h1, h2, h3⟩ := Dv.at a
  refine (reach_ok a i).mono fun v h1' ⟨hv, hh⟩ => ?_
  subst hh
  refine ⟨Ext.refl _, _, hv, ?_⟩
  rw [br_bne]
  refine ⟨fun hne => ⟨none, 0, 0, by rw [readD, if_neg hne], by rw [readD, if_neg hne]; exact ((St.start h1').nil 1).new ⟨owns_own, trivial⟩⟩, fun heq => ?_⟩
  obtain ⟨hd, hi0, hi1⟩ := reach_in w heq
  obtain ⟨i, rfl⟩ : ∃ k : Nat, i = k := ⟨i.toNat, by omega⟩
  simp only [deref_some, add_mk, Nat.zero_add]
  have hn := w.len
  refine ⟨_, _, _, pts_cell h1 (i := 1) rfl, by omega, by omega, ?_⟩
  have hsl := w.seenLen
  obtain ⟨m, sm, hm⟩ := h3
  have hrd := rd_own (c := c2) ⟨m, sm, hm⟩
  have hrows := pages_rows w.seenPages
  obtain ⟨b2, o2, rfl, hc⟩ := rows_get (i := i) hrd (by simp [hsl, hn]) hrows (by omega) (by omega)
  simp only [deref_some, add_mk, Int.toNat_natCast]
  refine ⟨by omega, by omega, by omega, by omega, ?_⟩
  have hp0 : ∀ q : Option Addr, (if ((128 : Nat) : Int).toNat = 0 then q else q.map fun x => x.add 0) = q := fun q => by cases q <;> simp [add_zero]
  have hlt : i < D.seen.length := by omega
  have hpl := w.seenPages _ (List.getElem_mem hlt)
  have hbs : Bs h1' (some (Addr.mk b2 (o2 + i * 128) none)) 128 D.seen[i] := by
    refine ⟨hpl, by simp [hpl], ?_⟩
    have := row_of (h := h1') (a := Addr.mk b2 (o2 + i * 128) none) (D.seen[i].map bv) fun j hj => by
      rw [add_mk]
      have := hc j (by simp at hj; omega) (by simpa using hlt) (by simpa [bcs_length] using hj)
      simpa [bcs_eq] using this
    simpa [src, hpl] using this
  have hres : readD D (i : Int) = (D.seen[i], 0) := by
    rw [readD, if_pos heq, Int.toNat_natCast, List.getD_eq_getElem?_getD, List.getElem?_eq_getElem hlt]; rfl
  rw [hres]
  simp only [Int.toNat_zero, Nat.zero_mul, Nat.sub_zero, hp0]
  exact (clone_ok hbs (by omega)).mono fun v h12 ⟨p', l', c', hv, nw⟩ => ⟨nw.ext, p', l', c', hv, p', l', c', rfl, nw⟩
theorem operates_ok (hs : St h0 h (Dv b D :: F)) (w : D.Wf n) (hd : D.down = false) :
    CallsH Try.prog n_device_Device_operates #[ptr b] h fun v h' => v = .bool (!(opD D).down) ∧ St h0 h' (Dv b (opD D) :: F) := by
  refine C_device_Device_operates (some (Addr.mk b 0 none)) ?_
  unfold F_device_Device_operates
  obtain ⟨p, c, p2, c2, q, qc, s⟩ := Dv.op hs
  simp only [deref_some, add_mk, Nat.zero_add]
  have hf1 := w.f1
  refine ⟨_, s.cell0 (i := 3) rfl, ?_⟩
  rw [br_beq]
  refine ⟨fun h0 => s.store0 (by simp) rfl fun h3 s => ⟨true, s.cell0 (i := 4) rfl, ?_⟩, fun hn0 => ⟨_, s.cell0 (i := 3) rfl, ?_⟩⟩
  · have e : opD D = { D with down := true } := by rw [opD, if_pos h0]
    rw [e]
    exact ⟨rfl, Dv.cl (D := { D with down := true }) s⟩
  · rw [br_decide]
    refine ⟨fun hpos => ⟨_, s.cell0 (i := 3) rfl, s.store0 (by simp) rfl fun h11 s => ⟨D.down, s.cell0 (i := 4) rfl, ?_⟩⟩, fun hneg => ⟨_, s.cell0 (i := 4) rfl, ?_⟩⟩
    · have e : opD D = { D with fuse := D.fuse - 1 } := by rw [opD, if_neg hn0, if_pos (by omega)]
      rw [wrap_i64 (by omega) (by omega)] at s
      rw [e]
      exact ⟨rfl, Dv.cl (D := { D with fuse := D.fuse - 1 }) s⟩
    · have e : opD D = D := by rw [opD, if_neg hn0, if_neg (by omega)]
      rw [e]
      exact ⟨rfl, Dv.cl s⟩
theorem setFuse_ok (hs : St h0 h (Dv b D :: F)) (k : Int) : CallsH Try.prog n_device_Device_SetFuse #[ptr b, .int .i64 k] h fun v h' => v = unit ∧ St h0 h' (Dv b (fuseD D k) :: F) := by
  refine C_device_Device_SetFuse (some (Addr.mk b 0 none)) k ?_
  unfold F_device_Device_SetFuse
  obtain ⟨p, c, p2, c2, q, qc, s⟩ := Dv.op hs
  simp only [Option.isNone_some, Bool.not_false, br_true, deref_some, Nat.zero_add]
  refine s.store0 (by simp) rfl fun h1 s => ⟨by trivial, Dv.cl (D := fuseD D k) (p := p) (c := c) (p2 := p2) (c2 := c2) (q := q) (qc := qc) ?_⟩
  have e : maxI k (-1) = max k (-1) := by unfold maxI; split <;> omega
  rw [e] at s
  exact s
end
end Go.Proofs.Ytbmhphnidfpclaa
/- The device of layer 7: writes, flushes, restarts, and how one is made. -/
set_option linter.unusedVariables false
set_option maxRecDepth 100000
namespace Go.Proofs.Ytbmhphnidfpclaa
open Go Go.Vc Go.Proofs
section
variable {h0 h : Heap} {F : List HP} {b n : Nat} {D : Dev}

theorem qRow_one (w : Nat × List UInt8) : ∀ v ∈ qRow w, v.oneCell' = true := fun v hv => by
  rcases List.mem_cons.1 hv with h | h
  · subst h; rfl
  · exact one_bcs _ v h
theorem qRow_length (w : Nat × List UInt8) : (qRow w).length = w.2.length + 1 := by simp [qRow, bcs_length]
theorem pages_lay {L : List (List UInt8)} {i : Nat} {ys : List UInt8} (hi : i < L.length) (hL : ∀ p ∈ L, p.length = 128) (hy : ys.length ≤ 128) : lay (pagesC L) (i * 128) (bcs ys) = pagesC (L.set i (ys ++ (L.getD i []).drop ys.length)) := by
  unfold pagesC
  have := lay_rows (i := i) (x := 0) (l := bcs ys) (pages_rows hL) (by simpa using hi) (by simpa [bcs_length] using hy)
  rw [Nat.add_zero] at this
  rw [this, List.map_set]
  congr 2
  simp [lay, bcs_append, bcs_drop, bcs_length, List.getD_eq_getElem?_getD, hi]
theorem queue_add (Q : List (Nat × List UInt8)) (w : Nat × List UInt8) : queueC Q ++ qRow w = queueC (Q ++ [w]) := by simp [queueC]
theorem write_ok {xs : List UInt8} {p : Option Addr} {l c : Nat} (hs : St h0 h (Dv b D :: rdo 1 p l (bcs xs) :: F)) (w : D.Wf n) (i : Int) (hq : D.queue.length ≤ 1000000) :
    CallsH Try.prog n_device_Device_Write #[ptr b, .int .i64 i, .slice p l c] h fun v h' => v = .int .i64 (writeD D i xs).1 ∧ St h0 h' (Dv b (writeD D i xs).2 :: rdo 1 p l (bcs xs) :: F) := by
  refine C_device_Device_Write (some (Addr.mk b 0 none)) i p l c ?_
  unfold F_device_Device_Write
  have hxl := (bs_rdo hs.up1.at).1
  refine (reach_ok hs.at i).mono fun v h1 ⟨hv, hh⟩ => ?_
  subst hh
  refine ⟨Ext.refl _, _, hv, ?_⟩
  rw [br_bne]
  refine ⟨fun hne => ?_, fun heq => ?_⟩
  · have e : writeD D i xs = (reachE D i, D) := by rw [writeD, if_pos hne]
    rw [e]; exact ⟨rfl, hs⟩
  have hr0 : ¬ reachE D i ≠ 0 := by simpa using heq
  rw [br_bne]
  refine ⟨fun hne => ?_, fun hl => ?_⟩
  · have e : writeD D i xs = (1, D) := by rw [writeD, if_neg hr0, if_pos (by omega)]
    rw [e]; exact ⟨rfl, hs⟩
  obtain ⟨hd, hi0, hi1⟩ := reach_in w heq
  refine (operates_ok hs w hd).mono fun v h2 ⟨hv, hs2⟩ => ⟨_, hv, ?_⟩
  clear hs
  have hx : xs.length = 128 := by omega
  have hnx : ¬ xs.length ≠ 128 := by omega
  rw [Bool.not_not]
  cases hdo : (opD D).down
  rotate_left
  · have e : writeD D i xs = (6, opD D) := by rw [writeD, if_neg hr0, if_neg hnx, if_pos hdo]
    rw [e]
    exact br_yes rfl ⟨rfl, hs2⟩
  have e : writeD D i xs = (0, { opD D with queue := D.queue ++ [(i.toNat, xs)] }) := by rw [writeD, if_neg hr0, if_neg hnx, if_neg (by simp [hdo])]
  rw [e]
  refine br_no rfl ⟨by omega, ?_⟩
  have wo := opD_wf w
  rw [← opD_queue D] at hq ⊢
  generalize opD D = D' at *
  obtain ⟨i, rfl⟩ : ∃ k : Nat, i = k := ⟨i.toNat, by omega⟩
  have hbs := bs_rdo hs2.up1.at
  obtain ⟨a, rfl, _⟩ := hbs.cell (i := 0) (by omega)
  have hrow : Vc.row h2 a 128 = some (bcs xs).toArray := by
    have := hbs.2.2
    have hl' : l = 128 := by omega
    simpa [src, hl', bcs_eq] using this
  simp only [deref_some, add_mk, Nat.zero_add]
  refine ⟨_, hrow, by simp [bcs_length, hx], hs2.newBlk fun b8 h9 _ s _ => ?_⟩
  have eq : (Value.int .i64 (i : Int) :: ((bcs xs).toArray.toList ++ [])) = qRow (i, xs) := by simp [qRow]
  rw [eq]
  have hql : (qRow (i, xs)).length = 129 := by simp [qRow_length, hx]
  refine s.storeAll (by simp) (by simpa using hql) (one_list (qRow_one _)) fun h10 s => ?_
  obtain ⟨p, c, p2, c2, q, qc, s⟩ := Dv.op s.up1
  have s := s.up4
  refine ⟨q, _, qc, s.up1.cell0 (i := 2) rfl, _, s.row0 (by simpa using hql), by simpa using hql, s.newBlk fun b16 h17 _ s _ => ?_⟩
  simp only [List.append_nil] at s ⊢
  refine St.append (xs := qRow (i, xs)) s.up5 ⟨by simpa using hql, by simp only [src, Nat.one_mul]; exact s.row0 (by simpa using hql)⟩ (qRow_one _) (by simp) (by omega) (by unfold maxLen; omega) fun p' c' h21 s _ => ?_
  refine s.up3.store0 (by simp) rfl fun h23 s => ?_
  refine ⟨_, _, _, s.cell0 (i := 1) rfl, ?_⟩
  refine ⟨_, s.up3.rowAt (i := 1) (n := 128) (by simp; omega), by omega, by have := wo.len; omega, ?_⟩
  have hrows := pages_rows wo.seenPages
  have hsl := wo.seenLen
  have hlen := wo.len
  obtain ⟨b2, o2, rfl, _⟩ := s.up5.rowGet hrows (by omega) (i := i) (by simp; omega)
  simp only [deref_some, add_mk, Int.toNat_natCast]
  have ex : (List.take 128 (List.drop 1 (qRow (i, xs)))) = bcs xs := by
    simp only [qRow, List.drop_succ_cons, List.drop_zero]
    exact List.take_of_length_le (by rw [bcs_length]; omega)
  rw [ex]
  refine s.up5.ownStore (by simp [bcs_length, hx]) (by omega) (one_list (one_bcs _)) fun h30 s => ⟨by trivial, ?_⟩
  have el : lay (pagesC D'.seen) (i * 128) (bcs xs).toArray.toList = pagesC ({ D' with queue := D'.queue ++ [(i, xs)] } : Dev).seen := by
    show lay _ _ (bcs xs) = _
    rw [pages_lay (by omega) wo.seenPages (by omega), List.drop_of_length_le, List.append_nil]
    · show _ = pagesC (applyQ _ _)
      rw [applyQ_snoc]; rfl
    · have hg := wo.seenPages (D'.seen.getD i []) (by rw [List.getD_eq_getElem?_getD, List.getElem?_eq_getElem (by omega)]; exact List.getElem_mem _)
      omega
  rw [el, queue_add] at s
  have s := (s.up3.drop).up3.drop
  refine Dv.cl (D := { D' with queue := D'.queue ++ [(i, xs)] }) (p := p) (c := c) (p2 := some (Addr.mk b2 o2 none)) (c2 := c2) (q := p') (qc := c') ?_
  have ln : ({ D' with queue := D'.queue ++ [(i, xs)] } : Dev).queue.length = D'.queue.length + 1 := by simp
  rw [ln]
  exact s.up3.up2

theorem queue_get {Q : List (Nat × List UInt8)} {k : Nat} (hk : k < Q.length) (hl : k < (Q.map qRow).length) : (Q.map qRow)[k] = qRow Q[k] := by simp
theorem applyQ_take {L : List (List UInt8)} {Q : List (Nat × List UInt8)} {k : Nat} (hk : k < Q.length) : applyQ L (Q.take (k + 1)) = (applyQ L (Q.take k)).set Q[k].1 Q[k].2 := by
  rw [List.take_succ_eq_append_getElem hk, applyQ_snoc]
theorem pages_set {L : List (List UInt8)} {i : Nat} {ys : List UInt8} (hi : i < L.length) (hL : ∀ p ∈ L, p.length = 128) (hy : ys.length = 128) : lay (pagesC L) (i * 128) (bcs ys) = pagesC (L.set i ys) := by
  rw [pages_lay hi hL (by omega), List.drop_of_length_le, List.append_nil]
  have hg := hL (L.getD i []) (by rw [List.getD_eq_getElem?_getD, List.getElem?_eq_getElem (by omega)]; exact List.getElem_mem _)
  omega
theorem flush_ok (hs : St h0 h (Dv b D :: F)) (w : D.Wf n) (hq : D.queue.length ≤ 1000000) :
    CallsH Try.prog n_device_Device_Flush #[ptr b] h fun v h' => v = .int .i64 (flushD D).1 ∧ St h0 h' (Dv b (flushD D).2 :: F) := by
  refine C_device_Device_Flush (some (Addr.mk b 0 none)) ?_
  unfold F_device_Device_Flush
  refine (down_ok hs.at).mono fun v h1 ⟨hv, hh⟩ => ?_
  subst hh
  refine ⟨Ext.refl _, _, hv, ?_⟩
  cases hd : D.down
  rotate_left
  · have e : flushD D = (6, D) := by rw [flushD, if_pos hd]
    rw [e]
    exact br_yes rfl ⟨rfl, hs⟩
  refine br_no rfl ((operates_ok hs w hd).mono fun v h2 ⟨hv, hs2⟩ => ⟨_, hv, ?_⟩)
  clear hs
  rw [Bool.not_not]
  cases hdo : (opD D).down
  rotate_left
  · have e : flushD D = (6, opD D) := by rw [flushD, if_neg (by simp [hd]), if_pos hdo]
    rw [e]
    exact br_yes rfl ⟨rfl, hs2⟩
  have e : flushD D = (0, { opD D with lasts := (opD D).seen, queue := [] }) := by rw [flushD, if_neg (by simp [hd]), if_neg (by simp [hdo])]; simp only [Dev.seen, opD_lasts, opD_queue]
  rw [e]
  refine br_no rfl ?_
  have wo := opD_wf w
  rw [← opD_queue D] at hq
  generalize opD D = D' at *
  obtain ⟨p, c, p2, c2, q, qc, s⟩ := Dv.op hs2
  have hlen := wo.len
  have hmax := wo.max
  simp only [deref_some, add_mk, Nat.zero_add, Nat.add_zero]
  refine ⟨q, _, qc, s.cell0 (i := 2) rfl, fun i h' => ∃ k : Nat, i = k ∧ k ≤ D'.queue.length ∧ St h0 h' (pts b 0 false [.slice p D'.lasts.length c, .slice p2 D'.lasts.length c2, .slice q D'.queue.length qc, .int .i64 D'.fuse, .bool D'.down] ::
    own 128 p D'.lasts.length c (pagesC (applyQ D'.lasts (D'.queue.take k))) :: own 128 p2 D'.lasts.length c2 (pagesC D'.seen) :: own 129 q D'.queue.length qc (queueC D'.queue) :: F), fun i _ => (D'.queue.length - i).toNat,
    ⟨0, rfl, Nat.zero_le _, by simpa [applyQ] using s⟩, ?_⟩
  clear s hs2
  rintro i h3 ⟨k, rfl, hk, s⟩
  rw [br_decide]
  refine ⟨fun hlt => ⟨by omega, hlt, ?_⟩, fun hge => ?_⟩
  · have hk1 : k < D'.queue.length := by omega
    have hw := wo.waits _ (List.getElem_mem hk1)
    have hqr := queue_rows fun x hx => (wo.waits x hx).2
    obtain ⟨b2, o2, rfl, hrow, _⟩ := s.up3.rowGet (rows := D'.queue.map qRow) hqr (by omega) (i := k) (by simpa using hk1)
    rw [queue_get hk1] at hrow
    simp only [deref_some, add_mk, Int.toNat_natCast]
    refine ⟨_, hrow, s.newBlk fun b16 h17 _ s _ => ?_⟩
    have hql : (qRow D'.queue[k]).length = 129 := by rw [qRow_length]; omega
    refine s.storeAll (by simp) (by simpa using hql) (one_list (qRow_one _)) fun h18 s => ?_
    refine ⟨p, _, c, s.up1.cell0 (i := 0) rfl, (D'.queue[k].1 : Int), s.cell0 (i := 0) rfl, _, s.rowAt (i := 1) (n := 128) (by simp; omega), by omega, by omega, ?_⟩
    have hal : (applyQ D'.lasts (D'.queue.take k)).length = n := by rw [applyQ_length]; exact hlen
    have hap := applyQ_pages (Q := D'.queue.take k) wo.pages fun x hx => (wo.waits x (List.mem_of_mem_take hx)).2
    obtain ⟨b3, o3, rfl, _⟩ := s.up2.rowGet (rows := (applyQ D'.lasts (D'.queue.take k)).map bcs) (pages_rows hap) (by omega) (i := D'.queue[k].1) (by simp; omega)
    have ex : (List.take 128 (List.drop 1 (qRow D'.queue[k]))) = bcs D'.queue[k].2 := by
      simp only [qRow, List.drop_succ_cons, List.drop_zero]
      exact List.take_of_length_le (by rw [bcs_length]; omega)
    simp only [deref_some, add_mk, Int.toNat_natCast]
    rw [ex]
    refine s.up2.ownStore (by simp [bcs_length, hw.2]) (by omega) (one_list (one_bcs _)) fun h26 s => ?_
    rw [wrap_i64 (by omega) (by omega)]
    refine ⟨⟨k + 1, by omega, by omega, ?_⟩, by omega⟩
    have el : lay (pagesC (applyQ D'.lasts (D'.queue.take k))) (D'.queue[k].1 * 128) (bcs D'.queue[k].2).toArray.toList = pagesC (applyQ D'.lasts (D'.queue.take (k + 1))) := by
      rw [applyQ_take hk1]
      exact pages_set (by omega) hap hw.2
    rw [el] at s
    exact s.up1.drop.up1
  · have hkl : k = D'.queue.length := by omega
    subst hkl
    rw [List.take_length] at s
    refine s.store0 (by simp) rfl fun h28 s => ⟨by trivial, ?_⟩
    have ll : D'.seen.length = D'.lasts.length := by rw [wo.seenLen, wo.len]
    refine Dv.cl (D := { D' with lasts := D'.seen, queue := [] }) (p := p) (c := c) (p2 := p2) (c2 := c2) (q := none) (qc := 0) ?_
    simp only [ll]
    have s := (s.up3.drop.nil 129).dn3
    exact s
theorem restL_snoc : ∀ (Q : List (Nat × List UInt8)) (L : List (List UInt8)) (w : Nat × List UInt8) (list : List Int), restL L (Q ++ [w]) list = (restL L Q list).set w.1 (mixed ((restL L Q list).getD w.1 []) w.2 (list.getD Q.length 0))
  | [], L, w, [] => by simp [restL]
  | [], L, w, t :: ts => by simp [restL]
  | x :: Q, L, w, [] => by
    rw [List.cons_append, restL, restL_snoc Q, restL]; simp
  | x :: Q, L, w, t :: ts => by
    rw [List.cons_append, restL, restL_snoc Q, restL]; simp
theorem St.ownCopyP {sz : Nat} {p q : Option Addr} {l c : Nat} {vs news : List Value} {K : Int → Heap → Prop} (hs : St h0 h (own sz p l c vs :: F)) (hsrc : src h q (l * sz) = some news.toArray) (hn : news.length = l * sz) (ho : ∀ v ∈ news, v.oneCell' = true)
    (hk : ∀ h', St h0 h' (own sz p l c news :: F) → K l h') : copyP sz p l q l h K := by
  have hlen := hs.len
  have hcase : (p = none ∧ c = 0) ∨ ∃ b o, p = some (Addr.mk b o none) := hs.pure fun m ⟨_, _, _, d⟩ => d.imp id fun ⟨b, o, _, e, _⟩ => ⟨b, o, e⟩
  have hmin : Nat.min l l = l := Nat.min_self l
  rcases hcase with ⟨rfl, rfl⟩ | ⟨b, o, rfl⟩
  · have hl : l = 0 := by omega
    subst hl
    have hv : news = [] := List.length_eq_zero_iff.1 (by omega)
    have hw : vs = [] := List.length_eq_zero_iff.1 (by omega)
    subst hv; subst hw
    refine ⟨#[], by simpa using src_zero h q, by simp [one], fun a ha => (by cases ha), fun h' e => ?_⟩
    simp only at e
    subst e
    exact hk _ hs
  · have := hs.ownCopy (x := 0) (n := l) (m := l) (sz' := sz) (q := q) (news := news) (K := K) (k := l * sz) (by rw [hmin]) (by omega) hsrc hn ho (fun h' s => by
      rw [lay_all (by omega)] at s
      rw [hmin]
      exact hk _ s)
    exact this
theorem pages_one (L : List (List UInt8)) : ∀ v ∈ pagesC L, v.oneCell' = true := fun v hv => by
  obtain ⟨r, hr, hv⟩ := List.mem_flatten.1 hv
  obtain ⟨x, _, rfl⟩ := List.mem_map.1 hr
  exact one_bcs _ v hv
theorem pages_length {L : List (List UInt8)} (h : ∀ p ∈ L, p.length = 128) : (pagesC L).length = L.length * 128 := by
  unfold pagesC
  rw [flatten_length (pages_rows h), List.length_map]
theorem restart_ok {list : List Int} {lp : Option Addr} {ll lc : Nat} (hs : St h0 h (Dv b D :: rdo 1 lp ll (list.map (Value.int .i64)) :: F)) (w : D.Wf n) (hq : D.queue.length ≤ 1000000) :
    CallsH Try.prog n_device_Device_Restart #[ptr b, .slice lp ll lc] h fun v h' => v = unit ∧ St h0 h' (Dv b (restartD D list) :: rdo 1 lp ll (list.map (Value.int .i64)) :: F) := by
  refine C_device_Device_Restart (some (Addr.mk b 0 none)) lp ll lc ?_
  unfold F_device_Device_Restart
  have hll : list.length = ll := by have := (rd_rdo hs.up1.at).1; simpa using this
  obtain ⟨p, c, p2, c2, q, qc, s⟩ := Dv.op hs
  have hlen := w.len
  have hmax := w.max
  simp only [Option.isNone_some, br_false, deref_some, add_mk, Nat.zero_add, Nat.add_zero]
  refine ⟨q, _, qc, s.cell0 (i := 2) rfl, fun i h' => ∃ k : Nat, i = k ∧ k ≤ D.queue.length ∧ St h0 h' (pts b 0 false [.slice p D.lasts.length c, .slice p2 D.lasts.length c2, .slice q D.queue.length qc, .int .i64 D.fuse, .bool D.down] ::
    own 128 p D.lasts.length c (pagesC (restL D.lasts (D.queue.take k) list)) :: own 128 p2 D.lasts.length c2 (pagesC D.seen) :: own 129 q D.queue.length qc (queueC D.queue) :: rdo 1 lp ll (list.map (Value.int .i64)) :: F), fun i _ => (D.queue.length - i).toNat,
    ⟨0, rfl, Nat.zero_le _, by simpa [restL] using s⟩, ?_⟩
  clear s hs
  rintro i h3 ⟨k, rfl, hk, s⟩
  rw [br_decide]
  refine ⟨fun hlt => ⟨by omega, hlt, ?_⟩, fun hge => ?_⟩
  · have hk1 : k < D.queue.length := by omega
    have hw := w.waits _ (List.getElem_mem hk1)
    have hqr := queue_rows fun x hx => (w.waits x hx).2
    obtain ⟨b2, o2, rfl, hrow, _⟩ := s.up3.rowGet (rows := D.queue.map qRow) hqr (by omega) (i := k) (by simpa using hk1)
    rw [queue_get hk1] at hrow
    simp only [deref_some, add_mk, Int.toNat_natCast]
    refine ⟨_, hrow, s.newBlk fun b16 h17 _ s _ => ?_⟩
    have hql : (qRow D.queue[k]).length = 129 := by rw [qRow_length]; omega
    refine s.storeAll (by simp) (by simpa using hql) (one_list (qRow_one _)) fun h18 s => ?_
    obtain ⟨hal, hap⟩ := restL_wf (n := n) (D.queue.take k) D.lasts list hlen w.pages fun x hx => w.waits x (List.mem_of_mem_take hx)
    obtain ⟨b3, o3, rfl, _⟩ := s.up2.rowGet (rows := (restL D.lasts (D.queue.take k) list).map bcs) (pages_rows hap) (by omega) (i := D.queue[k].1) (by simp; omega)
    have ex : ∀ t, t ≤ 128 → (List.take t (List.drop 1 (qRow D.queue[k]))) = bcs (D.queue[k].2.take t) := fun t ht => by
      simp only [qRow, List.drop_succ_cons, List.drop_zero, bcs_take]
    have hp0 : ∀ q : Option Addr, (if ((128 : Nat) : Int).toNat = 0 then q else q.map fun x => x.add 0) = q := fun q => by cases q <;> simp [add_zero]
    have hal' : D.queue[k].1 < (restL D.lasts (D.queue.take k) list).length := by omega
    have key : ∀ (t : Nat) (z : Int), t ≤ 128 → t = (min (max (list.getD k 0) 0) 128).toNat → z = t → ∀ (K : Heap → Prop), (∀ h', St h0 h' (pts b 0 false [.slice (some (Addr.mk b3 o3 none)) D.lasts.length c, .slice p2 D.lasts.length c2, .slice (some (Addr.mk b2 o2 none)) D.queue.length qc, .int .i64 D.fuse, .bool D.down] ::
        own 128 (some (Addr.mk b3 o3 none)) D.lasts.length c (pagesC (restL D.lasts (D.queue.take (k + 1)) list)) :: own 128 p2 D.lasts.length c2 (pagesC D.seen) :: own 129 (some (Addr.mk b2 o2 none)) D.queue.length qc (queueC D.queue) :: rdo 1 lp ll (list.map (Value.int .i64)) :: F) → K h') →
        sliceP 1 (some (Addr.mk b3 (o3 + D.queue[k].1 * 128) none)) 0 z ((128 : Nat) : Int) 128 fun p21 l22 c23 => sliceP 1 (some (Addr.mk b16 1 none)) 0 z ((128 : Nat) : Int) 128 fun p24 l25 c26 => copyP 1 p21 l22 p24 l25 h18 fun n27 h28 => K h28 := by
      intro t z ht he hz K hK
      subst hz
      refine ⟨by omega, by omega, by omega, by omega, ?_⟩
      refine ⟨by omega, by omega, by omega, by omega, ?_⟩
      simp only [Int.toNat_zero, Nat.zero_mul, Nat.sub_zero, hp0, Int.toNat_natCast]
      refine s.up2.ownCopy (k := t) (news := bcs (D.queue[k].2.take t)) (by rw [Nat.mul_one]; exact Nat.min_self t) (by omega) ?_ (by rw [bcs_length, List.length_take]; omega) (one_bcs _) fun h28 s => hK _ ?_
      · have := s.rowAt (i := 1) (n := t) (by simp; omega)
        rw [ex t ht] at this
        exact this
      · have el : lay (pagesC (restL D.lasts (D.queue.take k) list)) (D.queue[k].1 * 128) (bcs (D.queue[k].2.take t)) = pagesC (restL D.lasts (D.queue.take (k + 1)) list) := by
          rw [pages_lay hal' hap (by rw [List.length_take]; omega), List.take_succ_eq_append_getElem hk1, restL_snoc, List.length_take, Nat.min_eq_left (by omega), List.length_take, Nat.min_eq_left (by omega)]
          unfold mixed
          rw [← he]
        rw [el] at s
        exact s.up1.drop.up1
    rw [br_decide]
    refine ⟨fun hin => ⟨by omega, hin, ?_⟩, fun hout => ?_⟩
    · have hk2 : k < list.length := by omega
      obtain ⟨a, rfl, hc⟩ := (rd_rdo s.up5.at).cell (i := k) (by simpa using hk2)
      simp only [deref_some, Nat.mul_one]
      refine ⟨list[k], by simpa using hc, _, _, c, s.up1.cell0 (i := 0) rfl, (D.queue[k].1 : Int), s.cell0 (i := 0) rfl, by omega, by omega, ?_⟩
      simp only [deref_some, add_mk, Int.toNat_natCast]
      refine key (min (max list[k] 0) 128).toNat _ (by omega) (by simp [List.getD_eq_getElem?_getD, hk2]) ?_ _ fun h' s' => ⟨⟨k + 1, by rw [wrap_i64 (by omega) (by omega)]; omega, by omega, s'⟩, by rw [wrap_i64 (by omega) (by omega)]; omega⟩
      unfold minI maxI
      split <;> split <;> omega
    · refine ⟨_, _, c, s.up1.cell0 (i := 0) rfl, (D.queue[k].1 : Int), s.cell0 (i := 0) rfl, by omega, by omega, ?_⟩
      simp only [deref_some, add_mk, Int.toNat_natCast]
      refine key 0 0 (by omega) ?_ rfl _ fun h' s' => ⟨⟨k + 1, by rw [wrap_i64 (by omega) (by omega)]; omega, by omega, s'⟩, by rw [wrap_i64 (by omega) (by omega)]; omega⟩
      rw [List.getD_eq_getElem?_getD, List.getElem?_eq_none (by omega)]
      rfl
  · have hkl : k = D.queue.length := by omega
    subst hkl
    rw [List.take_length] at s
    obtain ⟨hal, hap⟩ := restL_wf (n := n) D.queue D.lasts list hlen w.pages w.waits
    refine ⟨p2, _, c2, s.cell0 (i := 1) rfl, p, _, c, s.cell0 (i := 0) rfl, ?_⟩
    have hsrc := (rd_own s.up1.at).2
    refine St.ownCopyP s.up2 hsrc (by rw [pages_length hap]; omega) (pages_one _) fun h52 s => ?_
    refine s.up1.store0 (by simp) rfl fun h54 s => ?_
    refine s.store0 (by simp) rfl fun h56 s => ?_
    refine s.store0 (by simp) rfl fun h58 s => ⟨by trivial, ?_⟩
    have lr : (restartD D list).lasts.length = D.lasts.length := by show (restL _ _ _).length = _; omega
    refine Dv.cl (p := p) (c := c) (p2 := p2) (c2 := c2) (q := none) (qc := 0) ?_
    rw [lr]
    have s := (s.up3.drop.nil 129).dn3.up2.up1
    exact s
theorem pagesC_new (n : Nat) : List.replicate (n * 128) (Value.int .u8 0) = pagesC (List.replicate n (List.replicate 128 0)) := by
  unfold pagesC
  rw [List.map_replicate, bcs_replicate]
  induction n with
  | zero => simp
  | succ n ih => rw [List.replicate_succ, List.flatten_cons, ← ih, Nat.succ_mul, Nat.add_comm, ← List.replicate_append_replicate]; rfl
theorem new_ok (h : Heap) (n : Nat) (hn : n ≤ 4096) : CallsH Try.prog n_device_New #[.int .i64 n] h fun v h' => ∃ b, v = .tuple #[ptr b, .int .i64 0] ∧ New h h' [Dv b (newD n)] := by
  refine C_device_New n ?_
  unfold F_device_New
  rw [br_decide]
  refine ⟨fun hx => by omega, fun _ => ?_⟩
  rw [br_decide]
  refine ⟨fun hx => by omega, fun _ => ?_⟩
  have hz : (List.replicate 128 (Value.int .u8 0)).toArray = Array.replicate 128 (Value.int .u8 0) := List.toArray_replicate _ _
  have hl : (newD n).lasts.length = n := by simp [newD]
  have hc : pagesC (newD n).lasts = List.replicate (n * 128) (Value.int .u8 0) := (pagesC_new n).symm
  have hc' : pagesC (newD n).seen = List.replicate (n * 128) (Value.int .u8 0) := (pagesC_new n).symm
  constructor
  · refine (St.start h).make hz (by omega) (Nat.le_refl _) (by unfold maxLen; omega) (by omega) fun b0 h1 s => ?_
    refine s.make hz (by omega) (Nat.le_refl _) (by unfold maxLen; omega) (by omega) fun b2 h3 s => ?_
    refine s.newBlk fun b4 h5 _ s _ => ⟨b4, rfl, St.new (Dv.cl (p := some (Addr.mk b0 0 none)) (c := n) (p2 := some (Addr.mk b2 0 none)) (c2 := n) (q := none) (qc := 0) ?_) ⟨owns_Dv, trivial⟩⟩
    rw [hl, hc, hc']
    simp only [Int.toNat_natCast] at s
    exact (s.nil 129).dn3.up2.up1
  · refine (St.start h).make hz (by omega) (Nat.le_refl _) (by unfold maxLen; omega) (by omega) fun b0 h1 s => ?_
    refine s.make hz (by omega) (Nat.le_refl _) (by unfold maxLen; omega) (by omega) fun b2 h3 s => ?_
    refine s.newBlk fun b4 h5 _ s _ => ⟨b4, rfl, St.new (Dv.cl (p := some (Addr.mk b2 0 none)) (c := n) (p2 := some (Addr.mk b0 0 none)) (c2 := n) (q := none) (qc := 0) ?_) ⟨owns_Dv, trivial⟩⟩
    rw [hl, hc, hc']
    simp only [Int.toNat_natCast] at s
    exact (s.nil 129).dn3
theorem new_bad (h : Heap) {n : Int} (hn : ¬(0 ≤ n ∧ n ≤ 4096)) : CallsH Try.prog n_device_New #[.int .i64 n] h fun v h' => v = .tuple #[.pointer none, .int .i64 1] ∧ h' = h := by
  refine C_device_New n ?_
  unfold F_device_New
  rw [br_decide]
  refine ⟨fun hx => ⟨rfl, rfl⟩, fun hx => ?_⟩
  rw [br_decide]
  exact ⟨fun hx => ⟨rfl, rfl⟩, fun hx => by omega⟩
/- ### No device -/
theorem down_nil (h : Heap) : CallsH Try.prog n_device_Device_Down #[.pointer none] h fun v h' => v = .bool true ∧ h' = h := C_device_Device_Down none ⟨rfl, rfl⟩
theorem pages_nil (h : Heap) : CallsH Try.prog n_device_Device_Pages #[.pointer none] h fun v h' => v = .int .i64 0 ∧ h' = h := C_device_Device_Pages none (br_yes rfl ⟨rfl, rfl⟩)
theorem reach_nil (h : Heap) (i : Int) : CallsH Try.prog n_device_Device_reach #[.pointer none, .int .i64 i] h fun v h' => v = .int .i64 6 ∧ h' = h :=
  C_device_Device_reach none i ((down_nil h).mono fun v h1 ⟨hv, hh⟩ => by subst hh; exact ⟨Ext.refl _, _, hv, br_yes rfl ⟨rfl, rfl⟩⟩)
theorem read_nil (h : Heap) (i : Int) : CallsH Try.prog n_device_Device_Read #[.pointer none, .int .i64 i] h fun v h' => v = .tuple #[.slice none 0 0, .int .i64 6] ∧ h' = h :=
  C_device_Device_Read none i ((reach_nil h i).mono fun v h1 ⟨hv, hh⟩ => by subst hh; exact ⟨Ext.refl _, _, hv, br_yes rfl ⟨rfl, rfl⟩⟩)
theorem write_nil (h : Heap) (i : Int) (p : Option Addr) (l c : Nat) : CallsH Try.prog n_device_Device_Write #[.pointer none, .int .i64 i, .slice p l c] h fun v h' => v = .int .i64 6 ∧ h' = h :=
  C_device_Device_Write none i p l c ((reach_nil h i).mono fun v h1 ⟨hv, hh⟩ => by subst hh; exact ⟨Ext.refl _, _, hv, br_yes rfl ⟨rfl, rfl⟩⟩)
theorem flush_nil (h : Heap) : CallsH Try.prog n_device_Device_Flush #[.pointer none] h fun v h' => v = .int .i64 6 ∧ h' = h :=
  C_device_Device_Flush none ((down_nil h).mono fun v h1 ⟨hv, hh⟩ => by subst hh; exact ⟨Ext.refl _, _, hv, br_yes rfl ⟨rfl, rfl⟩⟩)
theorem setFuse_nil (h : Heap) (k : Int) : CallsH Try.prog n_device_Device_SetFuse #[.pointer none, .int .i64 k] h fun v h' => v = unit ∧ h' = h := C_device_Device_SetFuse none k (br_no rfl ⟨rfl, rfl⟩)
theorem restart_nil (h : Heap) (p : Option Addr) (l c : Nat) : CallsH Try.prog n_device_Device_Restart #[.pointer none, .slice p l c] h fun v h' => v = unit ∧ h' = h := C_device_Device_Restart none p l c (br_yes rfl ⟨rfl, rfl⟩)
end
end Go.Proofs.Ytbmhphnidfpclaa
/- Laws of layer 7 that ask no reference. -/
set_option linter.unusedVariables false
set_option maxRecDepth 100000
namespace Go.Proofs.Ytbmhphnidfpclaa
open Go Go.Vc Go.Proofs
section
variable {h0 h : Heap} {F : List HP} {b n : Nat} {D : Dev}

/- ### What a device answers -/
theorem opD_pos (h : 0 < D.fuse) : opD D = { D with fuse := D.fuse - 1 } := by rw [opD, if_neg (by omega), if_pos h]
theorem opD_neg (h : D.fuse < 0) : opD D = D := by rw [opD, if_neg (by omega), if_neg (by omega)]
theorem opD_zero (h : D.fuse = 0) : opD D = { D with down := true } := by rw [opD, if_pos h]
theorem reach_down (h : D.down = true) (i : Int) : reachE D i = 6 := by rw [reachE, if_pos h]
theorem reach_zero {i : Nat} (w : D.Wf n) (hd : D.down = false) (hi : i < n) : reachE D i = 0 := by
  have := w.len
  rw [reachE, if_neg (by simp [hd]), if_neg (by omega)]
theorem reach_out {i : Int} (w : D.Wf n) (hd : D.down = false) (hi : i < 0 ∨ n ≤ i) : reachE D i = 4 := by
  have := w.len
  rw [reachE, if_neg (by simp [hd]), if_pos (by omega)]
theorem writeD_one {i : Nat} {xs : List UInt8} (w : D.Wf n) (hd : D.down = false) (hi : i < n) (hx : xs.length ≠ 128) : writeD D i xs = (1, D) := by
  rw [writeD, if_neg (by simpa using reach_zero w hd hi), if_pos hx]
theorem writeD_zero {i : Nat} {xs : List UInt8} (w : D.Wf n) (hd : D.down = false) (hi : i < n) (hx : xs.length = 128) (ho : (opD D).down = false) : writeD D i xs = (0, { opD D with queue := D.queue ++ [(i, xs)] }) := by
  rw [writeD, if_neg (by simpa using reach_zero w hd hi), if_neg (by omega), if_neg (by simp [ho]), Int.toNat_natCast]
theorem flushD_zero (hd : D.down = false) (ho : (opD D).down = false) : flushD D = (0, { opD D with lasts := D.seen, queue := [] }) := by
  rw [flushD, if_neg (by simp [hd]), if_neg (by simp [ho])]
theorem _root_.Go.Vc.St.rdNil (hs : St h0 h F) (sz : Nat) : St h0 h (rdo sz none 0 [] :: F) := hs.add fun m => ⟨by simp, .inl (by simp)⟩
theorem zeros_bcs : List.replicate (128 * 1) (Value.int .u8 0) = bcs (List.replicate 128 0) := by rw [bcs_replicate]; rfl
theorem make128 {K : Nat → Heap → Prop} (hs : St h0 h F) (hk : ∀ b h', St h0 h' (own 1 (some (Addr.mk b 0 none)) 128 128 (bcs (List.replicate 128 0)) :: F) → K b h') : makeP 5 1 1 #[Value.int .u8 0] 128 128 h K :=
  hs.make (l := 128) (c := 128) (z := .int .u8 0) rfl (by omega) (Nat.le_refl _) (by unfold maxLen; omega) (by omega) fun b h' s => hk b h' (by rw [zeros_bcs] at s; exact s)

end
end Go.Proofs.Ytbmhphnidfpclaa
/- Layer 7: DeviceWhole. -/
set_option linter.unusedVariables false
set_option maxRecDepth 100000
namespace Go.Proofs.Ytbmhphnidfpclaa
open Go Go.Vc Go.Proofs

theorem mixed_whole {was b : List UInt8} (h1 : was.length = 128) (h2 : b.length = 128) : mixed was b 128 = b := by
  unfold mixed
  have : (min (max (128 : Int) 0) 128).toNat = 128 := rfl
  rw [this, List.take_of_length_le (by omega), List.drop_of_length_le (by omega), List.append_nil]
theorem mixed_none {was b : List UInt8} : mixed was b 0 = was := by
  unfold mixed
  have : (min (max (0 : Int) 0) 128).toNat = 0 := rfl
  rw [this, List.take_zero, List.drop_zero, List.nil_append]
theorem set_getD (L : List (List UInt8)) (i : Nat) : L.set i (L.getD i []) = L := by
  apply List.ext_getElem?
  intro j
  rw [List.getElem?_set]
  split
  · rename_i h
    subst h
    rw [List.getD_eq_getElem?_getD]
    split
    · rename_i h; simp [h]
    · rename_i h; rw [List.getElem?_eq_none (by omega)]
  · rfl
theorem restL_none : ∀ (Q : List (Nat × List UInt8)) (L : List (List UInt8)), restL L Q [] = L
  | [], L => rfl
  | w :: Q, L => by rw [restL, mixed_none, set_getD, restL_none Q]
theorem restL_whole {n : Nat} : ∀ (Q : List (Nat × List UInt8)) (L : List (List UInt8)), L.length = n → (∀ p ∈ L, p.length = 128) → (∀ w ∈ Q, w.1 < n ∧ w.2.length = 128) → restL L Q (List.replicate Q.length 128) = applyQ L Q
  | [], L, _, _, _ => rfl
  | w :: Q, L, h1, h2, h3 => by
    have hw := h3 w (List.mem_cons_self ..)
    have hg : (L.getD w.1 []).length = 128 := h2 _ (by rw [List.getD_eq_getElem?_getD, List.getElem?_eq_getElem (by omega)]; exact List.getElem_mem _)
    rw [List.length_cons, List.replicate_succ, restL, mixed_whole hg hw.2, restL_whole Q (L.set w.1 w.2) (by simpa using h1) (fun p hp => by
      rcases List.mem_or_eq_of_mem_set hp with h | h
      · exact h2 p h
      · rw [h]; exact hw.2) fun x hx => h3 x (List.mem_cons_of_mem _ hx)]
    rfl
/-- The last byte of a page. -/
def lastB (L : List (List UInt8)) (i : Nat) : UInt8 := (L.getD i []).getD 127 0
theorem lastB_set {L : List (List UInt8)} {i j : Nat} {x : List UInt8} (hi : i < L.length) : lastB (L.set i x) j = if i = j then x.getD 127 0 else lastB L j := by
  have e : (L.set i x).getD j [] = if i = j then x else L.getD j [] := by
    rw [List.getD_eq_getElem?_getD, List.getElem?_set]
    split
    · rename_i h
      subst h
      simp [hi]
    · rw [← List.getD_eq_getElem?_getD]
  unfold lastB
  rw [e]
  split <;> rfl
theorem wrap_byte (x : Int) : ∃ y : UInt8, IntKind.wrap .u8 x = (y.toNat : Int) := ⟨UInt8.ofNat (x % 256).toNat, by
  rw [wrap_u8, UInt8.toNat_ofNat']
  omega⟩
/-- A device that lasts nothing, but to which writes wait. -/
def WD (Q : List (Nat × List UInt8)) : Dev := ⟨List.replicate 12 (List.replicate 128 0), Q, -1, false⟩
theorem WD_wf {Q : List (Nat × List UInt8)} (h : ∀ w ∈ Q, w.1 < 12 ∧ w.2.length = 128) : (WD Q).Wf 12 := ⟨by simp [WD], by omega, fun p hp => by simp [WD] at hp; simp [hp], h, by show (-1 : Int) ≤ -1; omega, by show (-1 : Int) ≤ _; omega⟩
theorem WD_write {Q : List (Nat × List UInt8)} (h : ∀ w ∈ Q, w.1 < 12 ∧ w.2.length = 128) {i : Nat} {xs : List UInt8} (hi : i < 12) (hx : xs.length = 128) : writeD (WD Q) i xs = (0, WD (Q ++ [(i, xs)])) := by
  have ho : opD (WD Q) = WD Q := opD_neg (by show (-1 : Int) < 0; omega)
  rw [writeD_zero (WD_wf h) rfl hi hx (by rw [ho]; rfl), ho]
  rfl
end Go.Proofs.Ytbmhphnidfpclaa
/- The reference of layer 7: the same device, kept otherwise. -/
set_option linter.unusedVariables false
set_option maxRecDepth 100000
namespace Go.Proofs.Ytbmhphnidfpclaa
open Go Go.Vc Go.Proofs

theorem getD_set {L : List (List UInt8)} {i j : Nat} {x : List UInt8} (hi : i < L.length) : (L.set i x).getD j [] = if i = j then x else L.getD j [] := by
  rw [List.getD_eq_getElem?_getD, List.getElem?_set]
  split
  · rename_i h
    subst h
    simp [hi]
  · rw [← List.getD_eq_getElem?_getD]
/-- The last write to a page is what is read of it. -/
theorem seen_last {L : List (List UInt8)} {Q : List (Nat × List UInt8)} {i k : Nat} (hk : k < Q.length) (he : Q[k].1 = i) (hi : i < L.length) (hn : ∀ j (hj : j < Q.length), k < j → Q[j].1 ≠ i) :
    ∀ m, m ≤ Q.length → k < m → (applyQ L (Q.take m)).getD i [] = Q[k].2
  | 0, _, h => by omega
  | m + 1, hm, h => by
    rw [applyQ_take (by omega)]
    by_cases hkm : k = m
    · subst hkm
      rw [he, getD_set (by rw [applyQ_length]; exact hi), if_pos rfl]
    · have hne := hn m (by omega) (by omega)
      by_cases hl : Q[m].1 < (applyQ L (Q.take m)).length
      · rw [getD_set hl, if_neg hne]
        exact seen_last hk he hi hn m (by omega) (by omega)
      · rw [List.set_eq_of_length_le (by omega)]
        exact seen_last hk he hi hn m (by omega) (by omega)
theorem seen_none {L : List (List UInt8)} {Q : List (Nat × List UInt8)} {i : Nat} (hn : ∀ j (hj : j < Q.length), Q[j].1 ≠ i) : ∀ m, m ≤ Q.length → (applyQ L (Q.take m)).getD i [] = L.getD i []
  | 0, _ => by simp [applyQ]
  | m + 1, hm => by
    rw [applyQ_take (by omega)]
    by_cases hl : Q[m].1 < (applyQ L (Q.take m)).length
    · rw [getD_set hl, if_neg (hn m (by omega))]
      exact seen_none hn m (by omega)
    · rw [List.set_eq_of_length_le (by omega)]
      exact seen_none hn m (by omega)

abbrev Pg := Sl × List UInt8
def rRow (w : Nat × Pg) : List Value := [.int .i64 (w.1 : Int), w.2.1.v]
def rQ (QP : List (Nat × Pg)) : List (Nat × List UInt8) := QP.map fun w => (w.1, w.2.2)
def rL (LP : List Pg) : List (List UInt8) := LP.map (·.2)
def rC (b : Nat) (LP : List Pg) (QP : List (Nat × Pg)) (f : Int) (dn : Bool) (p : Option Addr) (c : Nat) (q : Option Addr) (qc : Nat) : List HP :=
  [pts b 0 false [.slice p LP.length c, .slice q QP.length qc, .int .i64 f, .bool dn], own 1 p LP.length c (LP.map (·.1.v)), own 2 q QP.length qc (QP.map rRow).flatten, rds (LP ++ QP.map (·.2))]
def Rv (b : Nat) (D : Dev) : HP := fun m => ∃ LP QP p c q qc, D.lasts = rL LP ∧ D.queue = rQ QP ∧ star (rC b LP QP D.fuse D.down p c q qc) m
section
variable {h0 h : Heap} {F : List HP} {b n : Nat} {D : Dev}
theorem Rv.op (hs : St h0 h (Rv b D :: F)) : ∃ LP QP p c q qc, D.lasts = rL LP ∧ D.queue = rQ QP ∧ St h0 h (rC b LP QP D.fuse D.down p c q qc ++ F) := by
  obtain ⟨e, m, ⟨m1, m2, a, b', c', ⟨LP, QP, p, c, q, qc, e1, e2, x⟩, s⟩, t, u⟩ := hs
  exact ⟨LP, QP, p, c, q, qc, e1, e2, e, m, star_flat ⟨m1, m2, a, b', c', x, s⟩, t, u⟩
theorem Rv.cl {LP : List Pg} {QP : List (Nat × Pg)} {p q : Option Addr} {c qc : Nat} (e1 : D.lasts = rL LP) (e2 : D.queue = rQ QP) (hs : St h0 h (rC b LP QP D.fuse D.down p c q qc ++ F)) : St h0 h (Rv b D :: F) :=
  (St.pack hs).impl fun m x => ⟨LP, QP, p, c, q, qc, e1, e2, x⟩
theorem Rv.at (a : At h (Rv b D)) : ∃ LP QP p c q qc, D.lasts = rL LP ∧ D.queue = rQ QP ∧ At h (pts b 0 false [.slice p LP.length c, .slice q QP.length qc, .int .i64 D.fuse, .bool D.down]) ∧ At h (own 1 p LP.length c (LP.map (·.1.v))) ∧
    At h (own 2 q QP.length qc (QP.map rRow).flatten) ∧ At h (rds (LP ++ QP.map (·.2))) := by
  obtain ⟨m, s, LP, QP, p, c, q, qc, x1, x2, m1, m2, a1, a2, _, q1, m3, m4, a3, a4, _, q2, m5, m6, a5, a6, _, q3, m7, m8, a7, a8, _, q4, _⟩ := a
  exact ⟨LP, QP, p, c, q, qc, x1, x2, ⟨m1, s.le a1, q1⟩, ⟨m3, s.le (a3.trans a2), q2⟩, ⟨m5, s.le (a5.trans (a4.trans a2)), q3⟩, ⟨m7, s.le (a7.trans (a6.trans (a4.trans a2))), q4⟩⟩
theorem rRow_len (QP : List (Nat × Pg)) : ∀ r ∈ QP.map rRow, r.length = 2 := fun r hr => by
  obtain ⟨w, _, rfl⟩ := List.mem_map.1 hr
  rfl
theorem rQ_get {QP : List (Nat × Pg)} {k : Nat} (hk : k < QP.length) (h' : k < (rQ QP).length) : (rQ QP)[k] = (QP[k].1, QP[k].2.2) := by simp [rQ]
theorem rQ_len (QP : List (Nat × Pg)) : (rQ QP).length = QP.length := by simp [rQ]
theorem rL_len (LP : List Pg) : (rL LP).length = LP.length := by simp [rL]
theorem queue_eq {QP : List (Nat × Pg)} (e : D.queue = rQ QP) {j : Nat} (hj : j < D.queue.length) (hj' : j < QP.length) : D.queue[j] = (QP[j].1, QP[j].2.2) := by
  simp only [e]
  exact rQ_get hj' _

theorem ownMk {sz l c : Nat} {a : Addr} {vs : List Value} (hs : St h0 h (own sz (some a) l c vs :: F)) : ∃ pb po, a = Addr.mk pb po none := hs.pure fun m ⟨_, _, _, d⟩ => by
  rcases d with ⟨e, _⟩ | ⟨pb, po, _, e, _⟩
  · cases e
  · cases e; exact ⟨pb, po, rfl⟩
theorem rL_set (LP : List Pg) (i : Nat) (x : Pg) : rL (LP.set i x) = (rL LP).set i x.2 := by simp [rL, List.map_set]
theorem rv_set (LP : List Pg) (i : Nat) (x : Pg) : (LP.map (·.1.v)).set i x.1.v = (LP.set i x).map (·.1.v) := by simp [List.map_set]
end
end Go.Proofs.Ytbmhphnidfpclaa
/- The reference of layer 7: restarts, and calls by number. -/
set_option linter.unusedVariables false
set_option maxRecDepth 100000
namespace Go.Proofs.Ytbmhphnidfpclaa
open Go Go.Vc Go.Proofs
section
variable {h0 h : Heap} {F : List HP} {b n : Nat} {D : Dev}
theorem mixed_get {was bs : List UInt8} {t : Int} (h1 : was.length = 128) (h2 : bs.length = 128) {i : Nat} (hi : i < 128) (hi' : i < (mixed was bs t).length) : (mixed was bs t)[i] = if (i : Int) < t then bs[i] else was[i] := by
  simp only [mixed, List.getElem_append, List.getElem_take, List.getElem_drop, List.length_take]
  split
  · rw [if_pos (by omega)]
  · rw [if_neg (by omega)]
    congr 1
    omega
end
end Go.Proofs.Ytbmhphnidfpclaa
/- Layer 7: the reference's new device, calls by number, and scripts of calls that came in. -/
set_option linter.unusedVariables false
set_option maxRecDepth 100000
namespace Go.Proofs.Ytbmhphnidfpclaa
open Go Go.Vc Go.Proofs
section
variable {h0 h : Heap} {F : List HP} {b n : Nat} {D : Dev}
/- ### Calls by number -/
structure OpS where
  k : Int
  i : Int
  b : List UInt8
  list : List Int
def doD (D : Dev) (o : OpS) : (List UInt8 × Int) × Dev :=
  if o.k = 1 then (([], (writeD D o.i o.b).1), (writeD D o.i o.b).2) else if o.k = 2 then (([], (flushD D).1), (flushD D).2) else if o.k = 3 then (([], 0), fuseD D o.i)
  else if o.k = 4 then (([], 0), restartD D o.list) else if o.k = 5 then (readD D o.i, D) else (([], 0), D)
theorem doD_wf {o : OpS} (w : D.Wf n) (h1 : o.i ≤ 9223372036854775807) : (doD D o).2.Wf n := by
  unfold doD
  split; exact writeD_wf w _ _
  split; exact flushD_wf w
  split; exact fuseD_wf w h1
  split; exact restartD_wf w _
  split <;> exact w
theorem opD_q : (opD D).queue.length = D.queue.length := by rw [opD_queue]
theorem writeD_q (i : Int) (xs : List UInt8) : (writeD D i xs).2.queue.length ≤ D.queue.length + 1 := by
  have := @opD_q D
  unfold writeD
  split
  · simp
  · split
    · simp
    · split
      · simp only; omega
      · simp
theorem flushD_q : (flushD D).2.queue.length ≤ D.queue.length := by
  have := @opD_q D
  unfold flushD
  split
  · simp
  · split
    · simp only; omega
    · simp
theorem doD_q {o : OpS} : (doD D o).2.queue.length ≤ D.queue.length + 1 := by
  have h1 := writeD_q (D := D) o.i o.b
  have h2 := @flushD_q D
  unfold doD
  split; exact h1
  split; exact Nat.le_succ_of_le h2
  split; exact Nat.le_succ _
  split; exact Nat.zero_le _
  split <;> exact Nat.le_succ _
abbrev opV (o : OpS) (p : Option Addr) (l c : Nat) (lp : Option Addr) (ll lc : Nat) : Value := .agg #[.int .i64 o.k, .int .i64 o.i, .slice p l c, .slice lp ll lc]
/- ### Scripts -/
def OpR (h : Heap) (cs : List Value) (o : OpS) : Prop := ∃ p l c lp ll lc, cs = [.int .i64 o.k, .int .i64 o.i, .slice p l c, .slice lp ll lc] ∧ Bs h p l o.b ∧ Rd h 1 lp ll (o.list.map (Value.int .i64)) ∧ o.i ≤ 9223372036854775807 ∧ ll = o.list.length
def Ops (h : Heap) (p : Option Addr) (n : Nat) (os : List OpS) : Prop := ∃ rows : List (List Value), rows.length = n ∧ os.length = n ∧ Rd h 4 p n rows.flatten ∧ ∀ i (h1 : i < rows.length) (h2 : i < os.length), OpR h rows[i] os[i]
theorem OpR.ext {h h' : Heap} {cs : List Value} {o : OpS} (r : OpR h cs o) (e : Ext h h') : OpR h' cs o := by
  obtain ⟨p, l, c, lp, ll, lc, a, b, d, f⟩ := r
  exact ⟨p, l, c, lp, ll, lc, a, b.ext e, d.ext e, f⟩
theorem Ops.ext {h h' : Heap} {p : Option Addr} {n : Nat} {os : List OpS} (r : Ops h p n os) (e : Ext h h') : Ops h' p n os := by
  obtain ⟨rows, a, b, c, d⟩ := r
  exact ⟨rows, a, b, c.ext e, fun i h1 h2 => (d i h1 h2).ext e⟩
theorem Ops.len {h : Heap} {p : Option Addr} {n : Nat} {os : List OpS} (r : Ops h p n os) : os.length = n := r.choose_spec.2.1
theorem Ops.get {h : Heap} {p : Option Addr} {n : Nat} {os : List OpS} (r : Ops h p n os) {i : Nat} (hi : i < n) : ∃ b o q l c lp ll lc, ∃ h2 : i < os.length, p = some (Addr.mk b o none) ∧
    Bs h q l os[i].b ∧ Rd h 1 lp ll (os[i].list.map (Value.int .i64)) ∧ os[i].i ≤ 9223372036854775807 ∧ ll = os[i].list.length ∧
    cell h (Addr.mk b (o + i * 4 + 2) none) = some (.slice q l c) ∧ cell h (Addr.mk b (o + i * 4 + 3) none) = some (.slice lp ll lc) ∧
    row h (Addr.mk b (o + i * 4) none) 4 = some #[.int .i64 os[i].k, .int .i64 os[i].i, .slice q l c, .slice lp ll lc] := by
  obtain ⟨rows, h1, h2, h3, h4⟩ := r
  have hsz : ∀ r ∈ rows, r.length = 4 := fun r hr => by
    obtain ⟨j, hj, rfl⟩ := List.mem_iff_getElem.1 hr
    obtain ⟨_, _, _, _, _, _, e, _⟩ := h4 j hj (by omega)
    rw [e]; rfl
  obtain ⟨b, o, e, hc⟩ := rows_get h3 h1 hsz (by omega) hi
  obtain ⟨q, l, c, lp, ll, lc, er, hb, hl, hi1, hi2⟩ := h4 i (by omega) (by omega)
  have c0 := hc 0 (by omega) (by omega) (by rw [er]; simp)
  have c1 := hc 1 (by omega) (by omega) (by rw [er]; simp)
  have c2 := hc 2 (by omega) (by omega) (by rw [er]; simp)
  have c3 := hc 3 (by omega) (by omega) (by rw [er]; simp)
  simp only [er, List.getElem_cons_zero, List.getElem_cons_succ, Nat.add_zero] at c0 c1 c2 c3
  refine ⟨b, o, q, l, c, lp, ll, lc, by omega, e, hb, hl, hi1, hi2, c2, c3, ?_⟩
  have := row_of (h := h) (a := Addr.mk b (o + i * 4) none) [.int .i64 os[i].k, .int .i64 os[i].i, .slice q l c, .slice lp ll lc] fun j hj => by
    rw [add_mk]
    match j, hj with
    | 0, _ => simpa using c0
    | 1, _ => simpa using c1
    | 2, _ => simpa using c2
    | 3, _ => simpa using c3
  simpa using this
def FewO (os : List OpS) (n : Nat) : Prop := os.length ≤ n
end
end Go.Proofs.Ytbmhphnidfpclaa
