/- Layer 9: a log: its room, what it appends and flushes. -/
import Derived.Test.Ytgeoelahfljefaa9b
set_option linter.unusedVariables false
set_option maxRecDepth 100000
namespace Go.Proofs.Ytgeoelahfljefaa
open Go Go.Vc Go.Proofs
structure Lg where
  d : Nat
  start : Nat
  count : Nat
  gen : Nat
  next : Nat
  over : Bool
structure Lg.Wf (L : Lg) (n : Nat) : Prop where
  next : L.next ≤ L.count
  room : L.start + L.count ≤ n
  max : n ≤ 4096
  gen : L.gen < 4294967296
def Lv (b : Nat) (L : Lg) : HP := pts b 0 false [ptr L.d, .int .i64 L.start, .int .i64 L.count, .int .u32 L.gen, .int .i64 L.next, .bool L.over]
theorem owns_Lv {b : Nat} {L : Lg} : Owns (Lv b L) := owns_pts
def partB (bs : List UInt8) (i : Nat) : List UInt8 := (bs.drop (110 * i)).take 110
theorem partB_len (bs : List UInt8) (i : Nat) : (partB bs i).length ≤ 110 := by rw [partB, List.length_take]; omega
def kindN (i n : Nat) : Nat := (if i = 0 then 1 else 0) + (if i + 1 = n then 2 else 0)
theorem kindN_le (i n : Nat) : kindN i n ≤ 3 := by unfold kindN; split <;> split <;> omega
def pageA (L : Lg) (bs : List UInt8) (i : Nat) : List UInt8 := pageW L.gen (L.next + i + 1) (kindN i (partsN bs.length)) (partB bs i)
theorem pageA_len (L : Lg) (bs : List UInt8) (i : Nat) : (pageA L bs i).length = 128 := pageW_length (partB_len bs i)
def putA (L : Lg) (bs : List UInt8) : Nat → Nat → Dev → Int × Dev
  | 0, _, D => (0, D)
  | k + 1, i, D => if (writeD D ((L.start + L.next + i : Nat) : Int) (pageA L bs i)).1 ≠ 0 then writeD D ((L.start + L.next + i : Nat) : Int) (pageA L bs i)
    else putA L bs k (i + 1) (writeD D ((L.start + L.next + i : Nat) : Int) (pageA L bs i)).2
theorem putA_succ (L : Lg) (bs : List UInt8) (k i : Nat) (D : Dev) : putA L bs (k + 1) i D = if (writeD D ((L.start + L.next + i : Nat) : Int) (pageA L bs i)).1 ≠ 0 then writeD D ((L.start + L.next + i : Nat) : Int) (pageA L bs i)
    else putA L bs k (i + 1) (writeD D ((L.start + L.next + i : Nat) : Int) (pageA L bs i)).2 := rfl
def overL (L : Lg) (e : Int) : Lg := { L with over := L.over || e == 6 }
def appendD (L : Lg) (D : Dev) (bs : List UInt8) : Int × Lg × Dev :=
  if L.over then (6, L, D) else if 6000 < bs.length then (3, L, D) else if L.count < L.next + partsN bs.length then (5, L, D)
  else if (putA L bs (partsN bs.length) 0 D).1 ≠ 0 then ((putA L bs (partsN bs.length) 0 D).1, overL L (putA L bs (partsN bs.length) 0 D).1, (putA L bs (partsN bs.length) 0 D).2)
  else (0, { L with next := L.next + partsN bs.length }, (putA L bs (partsN bs.length) 0 D).2)
def flushL (L : Lg) (D : Dev) : Int × Lg × Dev := if L.over then (6, L, D) else ((flushD D).1, overL L (flushD D).1, (flushD D).2)
theorem putA_q (L : Lg) (bs : List UInt8) : ∀ k i (D : Dev), (putA L bs k i D).2.queue.length ≤ D.queue.length + k
  | 0, _, D => Nat.le_refl _
  | k + 1, i, D => by
    have h1 := writeD_q (D := D) ((L.start + L.next + i : Nat) : Int) (pageA L bs i)
    unfold putA
    split
    · omega
    · have := putA_q L bs k (i + 1) (writeD D ((L.start + L.next + i : Nat) : Int) (pageA L bs i)).2
      omega
theorem putA_wf (L : Lg) (bs : List UInt8) {n : Nat} : ∀ k i (D : Dev), D.Wf n → (putA L bs k i D).2.Wf n
  | 0, _, D, w => w
  | k + 1, i, D, w => by
    have h1 := writeD_wf w ((L.start + L.next + i : Nat) : Int) (pageA L bs i)
    unfold putA
    split
    · exact h1
    · exact putA_wf L bs k (i + 1) _ h1
theorem appendD_wf {L : Lg} {D : Dev} {n : Nat} (w : D.Wf n) (bs : List UInt8) : (appendD L D bs).2.2.Wf n := by
  unfold appendD
  split
  · exact w
  · split
    · exact w
    · split
      · exact w
      · split <;> exact putA_wf _ _ _ _ _ w
theorem appendD_q (L : Lg) (D : Dev) (bs : List UInt8) : (appendD L D bs).2.2.queue.length ≤ D.queue.length + 55 := by
  unfold appendD
  split
  · exact Nat.le_add_right _ _
  · split
    · exact Nat.le_add_right _ _
    · have h : partsN bs.length ≤ 55 := by unfold partsN; omega
      have := putA_q L bs (partsN bs.length) 0 D
      split
      · exact Nat.le_add_right _ _
      · split <;> (dsimp only; omega)
theorem flushL_wf {L : Lg} {D : Dev} {n : Nat} (w : D.Wf n) : (flushL L D).2.2.Wf n := by
  unfold flushL
  split
  · exact w
  · exact flushD_wf w
theorem flushL_q (L : Lg) (D : Dev) : (flushL L D).2.2.queue.length ≤ D.queue.length := by
  unfold flushL
  split
  · exact Nat.le_refl _
  · exact flushD_q
theorem appendD_lwf {L : Lg} {D : Dev} {n : Nat} (w : L.Wf n) (bs : List UInt8) : (appendD L D bs).2.1.Wf n ∧ (appendD L D bs).2.1.d = L.d ∧ (appendD L D bs).2.1.start = L.start ∧ (appendD L D bs).2.1.count = L.count ∧ (appendD L D bs).2.1.gen = L.gen := by
  unfold appendD
  split
  · exact ⟨w, rfl, rfl, rfl, rfl⟩
  · split
    · exact ⟨w, rfl, rfl, rfl, rfl⟩
    · split
      · exact ⟨w, rfl, rfl, rfl, rfl⟩
      · split
        · exact ⟨⟨w.next, w.room, w.max, w.gen⟩, rfl, rfl, rfl, rfl⟩
        · exact ⟨⟨by dsimp only; omega, w.room, w.max, w.gen⟩, rfl, rfl, rfl, rfl⟩
theorem flushL_lwf {L : Lg} {D : Dev} {n : Nat} (w : L.Wf n) : (flushL L D).2.1.Wf n ∧ (flushL L D).2.1.d = L.d ∧ (flushL L D).2.1.start = L.start ∧ (flushL L D).2.1.count = L.count ∧ (flushL L D).2.1.gen = L.gen := by
  unfold flushL
  split
  · exact ⟨w, rfl, rfl, rfl, rfl⟩
  · exact ⟨⟨w.next, w.room, w.max, w.gen⟩, rfl, rfl, rfl, rfl⟩
section
variable {h0 h : Heap} {F : List HP} {b n : Nat} {D : Dev} {L : Lg}
theorem room_ok (a : At h (Lv b L)) (w : L.Wf n) : CallsH Try.prog n_wal_Log_Room #[ptr b] h fun v h' => v = .int .i64 ((L.count - L.next : Nat) : Int) ∧ h' = h := by
  refine C_wal_Log_Room (some (Addr.mk b 0 none)) ?_
  unfold F_wal_Log_Room
  have := w.next
  have := w.room
  have := w.max
  simp only [Option.isNone_some, br_false, deref_some, add_mk, Nat.zero_add]
  refine ⟨_, pts_cell a (i := 2) rfl, _, pts_cell a (i := 4) rfl, ?_, by trivial⟩
  rw [wrap_i64 (by omega) (by omega)]
  congr 1
  omega
theorem ldone_ok (hs : St h0 h (Lv b L :: F)) (e : Int) : CallsH Try.prog n_wal_Log_done #[ptr b, .int .i64 e] h fun v h' => v = .int .i64 e ∧ St h0 h' (Lv b (overL L e) :: F) := by
  refine C_wal_Log_done (some (Addr.mk b 0 none)) e ?_
  unfold F_wal_Log_done
  unfold Lv at hs
  simp only [deref_some, add_mk, Nat.zero_add]
  refine ⟨L.over, hs.cell0 (i := 5) rfl, ?_⟩
  unfold Lv overL
  cases L.over
  · exact br_no rfl (hs.store0 (i := 5) (by simp) rfl fun h5 s => ⟨by trivial, s⟩)
  · exact br_yes rfl (hs.store0 (i := 5) (by simp) rfl fun h5 s => ⟨by trivial, s⟩)
theorem lflush_ok (hs : St h0 h (Lv b L :: Dv L.d D :: F)) (w : D.Wf n) (hq : D.queue.length ≤ 1000000) :
    CallsH Try.prog n_wal_Log_Flush #[ptr b] h fun v h' => v = .int .i64 (flushL L D).1 ∧ St h0 h' (Lv b (flushL L D).2.1 :: Dv L.d (flushL L D).2.2 :: F) := by
  refine C_wal_Log_Flush (some (Addr.mk b 0 none)) ?_
  unfold F_wal_Log_Flush
  simp only [Option.isNone_some, br_false, deref_some, add_mk, Nat.zero_add]
  refine ⟨L.over, St.cell0 (i := 5) hs rfl, ?_⟩
  cases hov : L.over
  · have e : flushL L D = ((flushD D).1, overL L (flushD D).1, (flushD D).2) := by rw [flushL, hov]; rfl
    rw [e]
    refine br_no rfl ⟨_, St.cell0 (i := 0) hs rfl, ?_⟩
    refine (flush_ok hs.up1 w hq).mono fun v h5 ⟨hv, s⟩ => ⟨_, hv, ?_⟩
    exact (ldone_ok s.up1 _).mono fun v h8 ⟨hv, s⟩ => ⟨_, hv, rfl, s⟩
  · have e : flushL L D = (6, L, D) := by rw [flushL, hov]; rfl
    rw [e]
    exact br_yes rfl ⟨rfl, hs⟩
theorem append_ok {xs : List UInt8} {p : Option Addr} {l c : Nat} (hs : St h0 h (Lv b L :: Dv L.d D :: rdo 1 p l (bcs xs) :: F)) (hlc : l ≤ c) (hmx : l ≤ 1000000000) (w : D.Wf n) (lw : L.Wf n) (hq : D.queue.length ≤ 900000) :
    CallsH Try.prog n_wal_Log_Append #[ptr b, .slice p l c] h fun v h' => v = .int .i64 (appendD L D xs).1 ∧ St h0 h' (Lv b (appendD L D xs).2.1 :: Dv L.d (appendD L D xs).2.2 :: rdo 1 p l (bcs xs) :: F) := by
  refine C_wal_Log_Append (some (Addr.mk b 0 none)) p l c ?_
  unfold F_wal_Log_Append
  have hxl := (bs_rdo hs.up2.at).1
  have ln := lw.next
  have lr := lw.room
  have lm := lw.max
  have lg := lw.gen
  refine (parts_ok l hmx).mono fun v h1 ⟨hv, hh⟩ => ?_
  subst hh
  refine ⟨Ext.refl _, _, hv, br_no rfl ?_⟩
  simp only [deref_some, add_mk, Nat.zero_add]
  refine ⟨L.over, St.cell0 (i := 5) hs rfl, ?_⟩
  cases hov : L.over
  rotate_left
  · have e : appendD L D xs = (6, L, D) := by rw [appendD, hov]; rfl
    rw [e]
    exact br_yes rfl ⟨rfl, hs⟩
  refine br_no rfl ?_
  have e0 : appendD L D xs = if 6000 < xs.length then (3, L, D) else if L.count < L.next + partsN xs.length then (5, L, D)
    else if (putA L xs (partsN xs.length) 0 D).1 ≠ 0 then ((putA L xs (partsN xs.length) 0 D).1, overL L (putA L xs (partsN xs.length) 0 D).1, (putA L xs (partsN xs.length) 0 D).2)
    else (0, { L with next := L.next + partsN xs.length }, (putA L xs (partsN xs.length) 0 D).2) := by rw [appendD, hov]; rfl
  rw [e0]
  rw [br_decide]
  refine ⟨fun hgt => ?_, fun hle => ?_⟩
  · rw [if_pos (by omega)]
    exact ⟨rfl, hs⟩
  rw [if_neg (by omega)]
  refine (room_ok hs.at lw).mono fun v h6 ⟨hv, hh⟩ => ?_
  subst hh
  refine ⟨Ext.refl _, _, hv, ?_⟩
  rw [hxl]
  rw [br_decide]
  refine ⟨fun hgt => ?_, fun hle => ?_⟩
  · rw [if_pos (by omega)]
    exact ⟨rfl, hs⟩
  rw [if_neg (by omega)]
  have hN : partsN l = partsN xs.length := by rw [hxl]
  generalize hNN : partsN l = N at *
  have hN1 : 110 * (N - 1) ≤ l ∧ l ≤ 110 * N ∧ 1 ≤ N := by rw [← hNN]; unfold partsN; omega
  refine ⟨fun i h' => ∃ (k : Nat) (E : Dev), i = k ∧ k ≤ N ∧ putA L xs N 0 D = putA L xs (N - k) k E ∧ E.Wf n ∧ E.queue.length ≤ D.queue.length + k ∧ St h0 h' (Lv b L :: Dv L.d E :: rdo 1 p l (bcs xs) :: F), fun i _ => ((N : Int) - i).toNat,
    ⟨0, D, rfl, Nat.zero_le _, rfl, w, Nat.le_refl _, hs⟩, ?_⟩
  clear hs
  rintro i h11 ⟨k, E, rfl, hk, hput, we, hqe, hs⟩
  rw [br_decide]
  refine ⟨fun hlt => ?_, fun hge => ?_⟩
  · have hk55 : N ≤ 4096 := by omega
    refine ⟨_, St.cell0 (i := 3) hs rfl, _, St.cell0 (i := 4) hs rfl, ?_⟩
    rw [wrap_i64 (n := (k : Int) + 1) (by omega) (by omega), wrap_i64 (n := (k : Int) * 110) (by omega) (by omega), wrap_i64 (n := ((k : Int) + 1) * 110) (by omega) (by omega), wrap_i64 (n := (L.next : Int) + k) (by omega) (by omega), wrap_i64 (n := (L.next : Int) + k + 1) (by omega) (by omega)]
    have hlo : (k : Int) * 110 = ((110 * k : Nat) : Int) := by omega
    have hhi : minI (((k : Int) + 1) * 110) (l : Int) = ((min (110 * k + 110) l : Nat) : Int) := by unfold minI; split <;> omega
    have hpl : ((L.next : Int) + k + 1) = ((L.next + k + 1 : Nat) : Int) := by omega
    rw [hlo, hhi, hpl]
    have hkl : 110 * k ≤ l := by omega
    refine sliceP_mid (l := l) (by omega) (by omega) hlc ?_
    have hpart : (xs.drop (110 * k)).take (min (110 * k + 110) l - 110 * k) = partB xs k := by
      rw [partB]
      by_cases hc : 110 * k + 110 ≤ l
      · congr 1; omega
      · rw [List.take_of_length_le (by rw [List.length_drop]; omega), List.take_of_length_le (by rw [List.length_drop]; omega)]
    have hbs : ∀ {h' : Heap} {G : List HP}, St h0 h' (rdo 1 p l (bcs xs) :: G) → Bs h' (if c = 110 * k then p else p.map fun a => a.add (110 * k * 1)) (min (110 * k + 110) l - 110 * k) (partB xs k) := fun s => by
      have hb := Bs.mid (bs_rdo s.at) (n := 110 * k) (m := min (110 * k + 110) l) (by omega) (by omega) hlc
      rwa [hpart] at hb
    generalize (if c = 110 * k then p else p.map fun a => a.add (110 * k * 1)) = p16 at *
    generalize hm17 : min (110 * k + 110) l - 110 * k = l17 at *
    refine hs.newBlk fun b19 h20 _ s _ => ?_
    refine s.storeAll (by simp) (by simp) (one_part _ _ _ _ _ _) fun h21 s => ?_
    have w1 : (if k = 0 then 1 else 0 : Nat) ≤ 1 := by split <;> omega
    refine ⟨fun _ h' => St h0 h' (pts b19 0 false [.int .u32 L.gen, .int .i64 ((L.next + k + 1 : Nat) : Int), .int .i64 ((if k = 0 then 1 else 0 : Nat) : Int), .slice p16 l17 (c - 110 * k)] :: Lv b L :: Dv L.d E :: rdo 1 p l (bcs xs) :: F), ?_, ?_⟩
    · rw [br_beq]
      refine ⟨fun h0k => ⟨_, s.cell0 (i := 2) rfl, s.store0 (i := 2) (by simp) rfl fun h24 s => ?_⟩, fun h0k => ?_⟩
      · rw [if_pos (by omega)]
        exact s
      · rw [if_neg (by omega)]
        exact s
    clear s
    rintro _ h26 s
    have hor : ∀ k1 : Nat, k1 ≤ 1 → orI .i64 (k1 : Int) 2 = ((k1 + 2 : Nat) : Int) := fun k1 h => by
      have : k1 = 0 ∨ k1 = 1 := by omega
      rcases this with rfl | rfl <;> rfl
    refine ⟨fun _ h' => St h0 h' (pts b19 0 false [.int .u32 L.gen, .int .i64 ((L.next + k + 1 : Nat) : Int), .int .i64 ((kindN k N : Nat) : Int), .slice p16 l17 (c - 110 * k)] :: Lv b L :: Dv L.d E :: rdo 1 p l (bcs xs) :: F), ?_, ?_⟩
    · rw [wrap_i64 (n := (N : Int) - 1) (by omega) (by omega), br_beq]
      unfold kindN
      refine ⟨fun he => ⟨_, s.cell0 (i := 2) rfl, s.store0 (i := 2) (by simp) rfl fun h29 s => ?_⟩, fun hne => ?_⟩
      · rw [if_pos (show k + 1 = N by omega)]
        rw [hor _ w1] at s
        exact s
      · rw [if_neg (show ¬ k + 1 = N by omega)]
        exact s
    clear s
    rintro _ h31 s
    refine ⟨_, s.row0 rfl, ?_⟩
    have hkd := kindN_le k N
    refine (page9_ok (hbs s.up3) (partB_len xs k) (q := L.next + k + 1) lg (by omega) (by omega)).mono fun v h34 ⟨p35, l36, c37, hv, nw⟩ => ⟨nw.ext, p35, l36, c37, 0, hv, br_no rfl ?_⟩
    have s := s.join nw
    simp only [List.cons_append, List.nil_append] at s
    have s := s.ro.up1.drop.up1
    refine ⟨_, St.cell0 (i := 0) s rfl, _, St.cell0 (i := 1) s rfl, _, St.cell0 (i := 4) s rfl, ?_⟩
    have hix : IntKind.wrap .i64 (IntKind.wrap .i64 ((L.start : Int) + L.next) + k) = ((L.start + L.next + k : Nat) : Int) := by
      rw [wrap_i64 (n := (L.start : Int) + L.next) (by omega) (by omega), wrap_i64 (by omega) (by omega)]
      omega
    rw [hix]
    have hpg : pageW L.gen (L.next + k + 1) (kindN k N) (partB xs k) = pageA L xs k := by rw [pageA, ← hN]
    rw [hpg] at s
    refine (write_ok s.up1.up2 we ((L.start + L.next + k : Nat) : Int) (by omega)).mono fun v h46 ⟨hv, s⟩ => ⟨_, hv, ?_⟩
    have hN' : N - k = (N - (k + 1)) + 1 := by omega
    rw [hN', putA_succ] at hput
    have hqw := writeD_q (D := E) ((L.start + L.next + k : Nat) : Int) (pageA L xs k)
    have s := s.up1.drop.up1
    rw [br_bne]
    refine ⟨fun hne => ?_, fun heq => ?_⟩
    · rw [if_pos hne] at hput
      rw [hput, if_pos hne]
      exact (ldone_ok s _).mono fun v h49 ⟨hv, s⟩ => ⟨_, hv, rfl, s⟩
    · rw [if_neg (by simpa using heq)] at hput
      exact ⟨⟨k + 1, _, by omega, by omega, hput, writeD_wf we _ _, by omega, s⟩, by show ((N : Int) - ((k : Int) + 1)).toNat < ((N : Int) - (k : Int)).toNat; omega⟩
  · obtain rfl : k = N := by omega
    rw [Nat.sub_self] at hput
    have hput : putA L xs k 0 D = (0, E) := hput
    rw [hput, if_neg (by simp)]
    refine ⟨_, St.cell0 (i := 4) hs rfl, ?_⟩
    rw [wrap_i64 (by omega) (by omega)]
    unfold Lv at hs
    refine hs.store0 (i := 4) (by simp) rfl fun h54 s => ⟨rfl, ?_⟩
    unfold Lv
    simp only [List.set_cons_succ, List.set_cons_zero, Int.natCast_add] at s ⊢
    exact s
end
end Go.Proofs.Ytgeoelahfljefaa
