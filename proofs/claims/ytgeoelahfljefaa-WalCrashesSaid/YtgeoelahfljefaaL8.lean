/- The slot of layer 8: what its functions answer. -/
import Derived.Test.YtgeoelahfljefaaL7
import Derived.Test.YtgeoelahfljefaaL1
import Derived.Test.YtgeoelahfljefaaS
import Derived.Test.YtgeoelahfljefaaFa
set_option linter.unusedVariables false
set_option maxRecDepth 100000
namespace Go.Proofs.Ytgeoelahfljefaa
open Go Go.Vc Go.Proofs

/-- A page. -/
def pageB (s : Nat) (v : List UInt8) : List UInt8 := numB s 8 ++ (numB v.length 2 ++ v) ++ List.replicate (110 - v.length) 0 ++ numB s 8
theorem pageB_length {s : Nat} {v : List UInt8} (h : v.length ≤ 110) : (pageB s v).length = 128 := by
  simp [pageB, numB_length]; omega
/-- What stands at the ends of a page. -/
def headB (b : List UInt8) : Nat := valB (b.take 8)
def countB (b : List UInt8) : Nat := valB ((b.drop 8).take 2)
def tailB (b : List UInt8) : Nat := valB (b.drop 120)
def textB (b : List UInt8) : List UInt8 := (b.drop 10).take (countB b)
/-- A page's serial and value; none: it isn't right. -/
def decB (b : List UInt8) : Option (Nat × List UInt8) := if countB b ≤ 110 ∧ tailB b = headB b ∧ headB b ≠ 0 then some (headB b, textB b) else none
theorem countB_lt (b : List UInt8) : countB b < 65536 := by
  have := valB_le (bs := (b.drop 8).take 2) (n := 2) (by rw [List.length_take]; omega)
  simpa [countB] using this
section
variable {h0 h : Heap} {F : List HP} {b n : Nat} {D : Dev}
/- ### Load and Save -/
def pickL (i : Nat) (acc : Nat × List UInt8) (b : List UInt8) : Nat × List UInt8 :=
  match decB b with
  | some (s, v) => if s % 2 = i ∧ acc.1 < s then (s, v) else acc
  | none => acc
def loadD (D : Dev) (at_ : Int) : (Nat × List UInt8) × Int :=
  if (readD D at_).2 ≠ 0 then ((0, []), (readD D at_).2) else if (readD D (at_ + 1)).2 ≠ 0 then ((0, []), (readD D (at_ + 1)).2)
  else (pickL 1 (pickL 0 (0, []) (readD D at_).1) (readD D (at_ + 1)).1, 0)
theorem readD_full {i : Int} (w : D.Wf n) (hr : (readD D i).2 = 0) : (readD D i).1.length = 128 := by
  unfold readD at hr ⊢
  split at hr
  · rename_i h
    rw [if_pos h]
    obtain ⟨hd, h0, h1⟩ := reach_in w h
    have hsl := w.seenLen
    have hlt : i.toNat < D.seen.length := by omega
    rw [List.getD_eq_getElem?_getD, List.getElem?_eq_getElem hlt]
    exact w.seenPages _ (List.getElem_mem hlt)
  · rename_i h
    exact absurd hr h
def saveD (D : Dev) (at_ : Int) (xs : List UInt8) : (Nat × Int) × Dev :=
  if 110 < xs.length then ((0, 3), D) else if (loadD D at_).2 ≠ 0 then ((0, (loadD D at_).2), D) else if (loadD D at_).1.1 + 1 = 18446744073709551616 then ((0, 5), D)
  else if (writeD D (at_ + (((loadD D at_).1.1 + 1) % 2 : Nat)) (pageB ((loadD D at_).1.1 + 1) xs)).1 ≠ 0 then ((0, (writeD D (at_ + (((loadD D at_).1.1 + 1) % 2 : Nat)) (pageB ((loadD D at_).1.1 + 1) xs)).1), (writeD D (at_ + (((loadD D at_).1.1 + 1) % 2 : Nat)) (pageB ((loadD D at_).1.1 + 1) xs)).2)
  else if (flushD (writeD D (at_ + (((loadD D at_).1.1 + 1) % 2 : Nat)) (pageB ((loadD D at_).1.1 + 1) xs)).2).1 ≠ 0 then ((0, (flushD (writeD D (at_ + (((loadD D at_).1.1 + 1) % 2 : Nat)) (pageB ((loadD D at_).1.1 + 1) xs)).2).1), (flushD (writeD D (at_ + (((loadD D at_).1.1 + 1) % 2 : Nat)) (pageB ((loadD D at_).1.1 + 1) xs)).2).2)
  else (((loadD D at_).1.1 + 1, 0), (flushD (writeD D (at_ + (((loadD D at_).1.1 + 1) % 2 : Nat)) (pageB ((loadD D at_).1.1 + 1) xs)).2).2)
theorem headB_lt (b : List UInt8) : headB b < 18446744073709551616 := by
  have := valB_le (bs := b.take 8) (n := 8) (by rw [List.length_take]; omega)
  simpa [headB] using this
theorem pickL_lt {i : Nat} {acc : Nat × List UInt8} {b : List UInt8} (h : acc.1 < 18446744073709551616) : (pickL i acc b).1 < 18446744073709551616 := by
  unfold pickL
  split
  · rename_i s v hd
    have hs : s = headB b := by
      unfold decB at hd
      split at hd
      · cases hd; rfl
      · cases hd
    split
    · show s < _
      rw [hs]
      exact headB_lt b
    · exact h
  · exact h
theorem loadD_lt (D : Dev) (at_ : Int) : (loadD D at_).1.1 < 18446744073709551616 := by
  unfold loadD
  split
  · simp
  · split
    · simp
    · exact pickL_lt (pickL_lt (by simp))
end
end Go.Proofs.Ytgeoelahfljefaa
/- Layer 8: a slot on a device that keeps its power; SlotNone, SlotCounts. -/
set_option linter.unusedVariables false
set_option maxRecDepth 100000
namespace Go.Proofs.Ytgeoelahfljefaa
open Go Go.Vc Go.Proofs

theorem foldl_valB : ∀ (bs : List UInt8) (a : Nat), bs.foldl (fun x b => x * 256 + b.toNat) a = a * 256 ^ bs.length + valB bs
  | [], a => by simp [valB]
  | b :: bs, a => by
    have h1 := foldl_valB bs (a * 256 + b.toNat)
    have h2 := foldl_valB bs (0 * 256 + b.toNat)
    have h3 : valB (b :: bs) = (0 * 256 + b.toNat) * 256 ^ bs.length + valB bs := h2
    rw [List.foldl_cons, h1, h3, List.length_cons, Nat.pow_succ, Nat.add_mul, Nat.zero_mul, Nat.zero_add, Nat.mul_assoc, Nat.mul_comm 256 (256 ^ bs.length), Nat.add_assoc]
theorem valB_numB (x : Nat) : ∀ n, valB (numB x n) = x % 256 ^ n
  | 0 => by simp [numB, valB, Nat.mod_one]
  | n + 1 => by
    have h : valB (numB x (n + 1)) = (0 * 256 + (dg x n).toNat) * 256 ^ (numB x n).length + valB (numB x n) := foldl_valB (numB x n) _
    have hm : x % 256 ^ (n + 1) = x % 256 ^ n + 256 ^ n * (x / 256 ^ n % 256) := Nat.mod_pow_succ
    have hd : (dg x n).toNat = x / 256 ^ n % 256 := by rw [dg, UInt8.toNat_ofNat']
    rw [h, numB_length, valB_numB x n, Nat.zero_mul, Nat.zero_add, hd, hm, Nat.mul_comm, Nat.add_comm]
theorem take_num (x n : Nat) (rest : List UInt8) : (numB x n ++ rest).take n = numB x n := by rw [List.take_append_of_le_length (by rw [numB_length]; exact Nat.le_refl _), List.take_of_length_le (by rw [numB_length]; exact Nat.le_refl _)]
theorem drop_num (x n : Nat) (rest : List UInt8) : (numB x n ++ rest).drop n = rest := by rw [List.drop_append, List.drop_of_length_le (by rw [numB_length]; exact Nat.le_refl _), numB_length, Nat.sub_self]; rfl
theorem headB_page {s : Nat} {v : List UInt8} (hs : s < 18446744073709551616) : headB (pageB s v) = s := by
  unfold headB pageB
  simp only [List.append_assoc]
  rw [take_num, valB_numB, Nat.mod_eq_of_lt (by simpa using hs)]
theorem countB_page {s : Nat} {v : List UInt8} (hv : v.length ≤ 110) : countB (pageB s v) = v.length := by
  unfold countB pageB
  simp only [List.append_assoc]
  rw [drop_num, take_num, valB_numB, Nat.mod_eq_of_lt (by omega)]
theorem tailB_page {s : Nat} {v : List UInt8} (hs : s < 18446744073709551616) (hv : v.length ≤ 110) : tailB (pageB s v) = s := by
  unfold tailB pageB
  rw [List.drop_append, List.drop_of_length_le (by simp [numB_length]; omega), List.nil_append]
  have : 120 - (numB s 8 ++ (numB v.length 2 ++ v) ++ List.replicate (110 - v.length) 0).length = 0 := by simp [numB_length]; omega
  rw [this, List.drop_zero, valB_numB, Nat.mod_eq_of_lt (by simpa using hs)]
theorem textB_page {s : Nat} {v : List UInt8} (hv : v.length ≤ 110) : textB (pageB s v) = v := by
  unfold textB
  rw [countB_page hv]
  have e : pageB s v = (numB s 8 ++ numB v.length 2) ++ (v ++ (List.replicate (110 - v.length) 0 ++ numB s 8)) := by simp [pageB]
  rw [e, List.drop_append, List.drop_of_length_le (by simp [numB_length]), List.nil_append]
  have : 10 - (numB s 8 ++ numB v.length 2).length = 0 := by simp [numB_length]
  rw [this, List.drop_zero, List.take_append_of_le_length (Nat.le_refl _), List.take_length]
theorem decB_page {s : Nat} {v : List UInt8} (h0 : 0 < s) (hs : s < 18446744073709551616) (hv : v.length ≤ 110) : decB (pageB s v) = some (s, v) := by
  rw [decB, headB_page hs, tailB_page hs hv, countB_page hv, textB_page hv, if_pos ⟨hv, rfl, by omega⟩]
theorem decB_zero : decB (List.replicate 128 0) = none := by
  have : headB (List.replicate 128 0) = 0 := by decide
  rw [decB, if_neg (fun hh => hh.2.2 this)]

/-- A page of a device. -/
def pg (D : Dev) (i : Nat) : List UInt8 := D.seen.getD i []
/-- What a slot tells: the serial, the value. -/
def Slot (D : Dev) (a c : Nat) (v : List UInt8) : Prop :=
  (c = 0 → v = [] ∧ ∀ s x, decB (pg D a) = some (s, x) → s % 2 ≠ 0) ∧ (0 < c → decB (pg D (a + c % 2)) = some (c, v)) ∧
  ∀ s x, decB (pg D (a + (c + 1) % 2)) = some (s, x) → s < c ∨ s % 2 ≠ (c + 1) % 2
structure Up (D : Dev) (n : Nat) : Prop where
  wf : D.Wf n
  up : D.down = false
theorem Up.read {D : Dev} {n i : Nat} (u : Up D n) (hi : i < n) : readD D i = (pg D i, 0) := by rw [readD, if_pos (reach_zero u.wf u.up hi), Int.toNat_natCast]; rfl
theorem load_slot {D : Dev} {n a c : Nat} {v : List UInt8} (u : Up D n) (ha : a + 1 < n) (s : Slot D a c v) : loadD D a = ((c, v), 0) := by
  obtain ⟨s0, s1, s2⟩ := s
  have r0 := u.read (i := a) (by omega)
  have r1 := u.read (i := a + 1) (by omega)
  have ea : ((a : Int) + 1) = ((a + 1 : Nat) : Int) := by omega
  rw [loadD, ea, r0, r1, if_neg (by simp), if_neg (by simp)]
  dsimp only
  congr 1
  by_cases hc : c = 0
  · subst hc
    obtain ⟨rfl, s00⟩ := s0 rfl
    have e0 : pickL 0 (0, []) (pg D a) = (0, []) := by
      unfold pickL
      split
      · rename_i s x hd
        rw [if_neg (fun hh => s00 s x hd hh.1)]
      · rfl
    rw [e0]
    unfold pickL
    split
    · rename_i s x hd
      rw [if_neg]
      rintro ⟨h1, h2⟩
      rcases s2 s x hd with h | h
      · omega
      · exact h h1
    · rfl
  · have s1 := s1 (by omega)
    have hm : c % 2 = 0 ∨ c % 2 = 1 := by omega
    rcases hm with hm | hm
    · have hm' : (c + 1) % 2 = 1 := by omega
      rw [hm] at s1
      rw [hm'] at s2
      have e0 : pickL 0 (0, []) (pg D a) = (c, v) := by
        unfold pickL
        rw [show decB (pg D a) = some (c, v) from s1]
        simp only
        rw [if_pos ⟨hm, by omega⟩]
      rw [e0]
      unfold pickL
      split
      · rename_i s x hd
        rw [if_neg]
        rintro ⟨h1, h2⟩
        rcases s2 s x hd with h | h
        · simp only at h2; omega
        · exact h h1
      · rfl
    · have hm' : (c + 1) % 2 = 0 := by omega
      rw [hm] at s1
      rw [hm'] at s2
      have e0 : (pickL 0 (0, []) (pg D a)).1 < c := by
        unfold pickL
        split
        · rename_i s x hd
          split
          · rename_i hh
            rcases s2 s x hd with h | h
            · exact h
            · exact absurd hh.1 h
          · show 0 < c; omega
        · show 0 < c; omega
      generalize pickL 0 (0, []) (pg D a) = acc at *
      unfold pickL
      rw [s1]
      simp only
      rw [if_pos ⟨hm, e0⟩]
theorem pg_set {D D' : Dev} {i j : Nat} {x : List UInt8} (e : D'.seen = D.seen.set i x) (hi : i < D.seen.length) : pg D' j = if i = j then x else pg D j := by
  unfold pg
  rw [e, getD_set hi]
theorem save_slot {D : Dev} {n a c : Nat} {v xs : List UInt8} (u : Up D n) (hf : D.fuse = -1) (ha : a + 1 < n) (s : Slot D a c v) (hc : c + 1 < 18446744073709551616) (hx : xs.length ≤ 110) :
    ∃ D', saveD D a xs = ((c + 1, 0), D') ∧ Up D' n ∧ D'.fuse = -1 ∧ D'.queue = [] ∧ D'.seen = D.seen.set (a + (c + 1) % 2) (pageB (c + 1) xs) ∧ Slot D' a (c + 1) xs := by
  have hl := load_slot u ha s
  have ho : opD D = D := opD_neg (by omega)
  have hi : a + (c + 1) % 2 < n := by omega
  have ea : ((a : Int) + (((c + 1) % 2 : Nat) : Int)) = ((a + (c + 1) % 2 : Nat) : Int) := by omega
  have hw : writeD D ((a + (c + 1) % 2 : Nat) : Int) (pageB (c + 1) xs) = (0, { D with queue := D.queue ++ [(a + (c + 1) % 2, pageB (c + 1) xs)] }) := by
    rw [writeD_zero u.wf u.up hi (pageB_length hx) (by rw [ho]; exact u.up), ho]
  have ww := writeD_wf u.wf ((a + (c + 1) % 2 : Nat) : Int) (pageB (c + 1) xs)
  rw [hw] at ww
  have ho2 : opD { D with queue := D.queue ++ [(a + (c + 1) % 2, pageB (c + 1) xs)] } = { D with queue := D.queue ++ [(a + (c + 1) % 2, pageB (c + 1) xs)] } := opD_neg (by show D.fuse < 0; omega)
  have hfl := flushD_zero (D := { D with queue := D.queue ++ [(a + (c + 1) % 2, pageB (c + 1) xs)] }) u.up (by rw [ho2]; exact u.up)
  rw [ho2] at hfl
  have wf := flushD_wf ww
  rw [hfl] at wf
  have hseen : ({ D with queue := D.queue ++ [(a + (c + 1) % 2, pageB (c + 1) xs)] } : Dev).seen = D.seen.set (a + (c + 1) % 2) (pageB (c + 1) xs) := applyQ_snoc _ _ _
  have hpg := fun j => pg_set (D := D) (D' := { D with lasts := ({ D with queue := D.queue ++ [(a + (c + 1) % 2, pageB (c + 1) xs)] } : Dev).seen, queue := [] }) (i := a + (c + 1) % 2) (j := j) (x := pageB (c + 1) xs) hseen (by rw [u.wf.seenLen]; exact hi)
  refine ⟨{ D with lasts := ({ D with queue := D.queue ++ [(a + (c + 1) % 2, pageB (c + 1) xs)] } : Dev).seen, queue := [] }, ?_, ⟨wf, u.up⟩, hf, rfl, hseen, fun h => by omega, fun _ => ?_, fun s' x hd => ?_⟩
  · rw [saveD, hl, if_neg (by omega), if_neg (by simp)]
    dsimp only
    rw [if_neg (by omega), ea, hw]
    dsimp only
    rw [if_neg (by simp), hfl]
    dsimp only
    rw [if_neg (by simp)]
  · rw [hpg, if_pos rfl]
    exact decB_page (by omega) hc hx
  · rw [hpg, if_neg (by omega)] at hd
    have e2 : a + (c + 1 + 1) % 2 = a + c % 2 := by omega
    rw [e2] at hd
    obtain ⟨s0, s1, s2⟩ := s
    by_cases hc0 : c = 0
    · subst hc0
      exact .inr (by have := (s0 rfl).2 s' x hd; omega)
    · rw [s1 (by omega)] at hd
      cases hd
      exact .inl (by omega)
theorem newD_seen (n : Nat) : (newD n).seen = List.replicate n (List.replicate 128 0) := rfl
theorem newD_pg {n i : Nat} (hi : i < n) : pg (newD n) i = List.replicate 128 0 := by rw [pg, newD_seen, List.getD_eq_getElem?_getD, List.getElem?_replicate, if_pos hi]; rfl
theorem newD_up {n : Nat} (hn : n ≤ 4096) : Up (newD n) n := ⟨newD_wf hn, rfl⟩
theorem newD_slot {n a : Nat} (ha : a + 1 < n) : Slot (newD n) a 0 [] := ⟨fun _ => ⟨rfl, fun s x hd => by rw [newD_pg (by omega), decB_zero] at hd; cases hd⟩, fun h => by omega, fun s x hd => by rw [newD_pg (by omega), decB_zero] at hd; cases hd⟩
end Go.Proofs.Ytgeoelahfljefaa
