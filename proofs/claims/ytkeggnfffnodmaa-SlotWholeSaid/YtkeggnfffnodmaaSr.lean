/- Parts of memory, third part: rows of rows. It speaks of no program. -/
import Derived.Test.YtkeggnfffnodmaaRd
set_option linter.unusedVariables false
namespace Go.Vc
open Go
theorem spot_none {h : Heap} {a : Addr} {v : Value} (hc : cell h a = some v) : a.spot = none := by
  unfold cell at hc
  split at hc
  · split at hc
    · cases hc
    · rename_i hn; simpa using hn
  · cases hc
/-- The cells of a row of rows. -/
theorem rows_get {h : Heap} {p : Option Addr} {n sz : Nat} {rows : List (List Value)} (hr : Rd h sz p n rows.flatten) (hn : rows.length = n) (hsz : ∀ r ∈ rows, r.length = sz) (hz : 0 < sz) {i : Nat} (hi : i < n) :
    ∃ b o, p = some (Addr.mk b o none) ∧ ∀ j (hj : j < sz) (h1 : i < rows.length) (h2 : j < rows[i].length), cell h (Addr.mk b (o + i * sz + j) none) = some rows[i][j] := by
  have hl : rows.flatten.length = n * sz := hr.1
  have hpos : 0 < rows.flatten.length := by
    rw [hl]
    exact Nat.mul_pos (by omega) hz
  obtain ⟨a, rfl, h0⟩ := hr.cell hpos
  have hsp : a.spot = none := by
    have := spot_none h0
    simpa [Addr.add] using this
  obtain ⟨b, o, sp⟩ := a
  simp only at hsp
  subst hsp
  refine ⟨b, o, rfl, fun j hj h1 h2 => ?_⟩
  have hlt : i * sz + j < rows.flatten.length := by
    rw [hl]
    have := Nat.mul_le_mul_right sz (show i + 1 ≤ n by omega)
    rw [Nat.add_mul] at this
    omega
  obtain ⟨a', e, hc⟩ := hr.cell hlt
  cases e
  obtain ⟨f1, f2, f3⟩ := flatten_get hsz hlt hz
  rw [f3, add_mk, ← Nat.add_assoc] at hc
  have ei : (i * sz + j) / sz = i := by rw [Nat.mul_comm, Nat.mul_add_div hz, Nat.div_eq_of_lt hj]; omega
  have ej : (i * sz + j) % sz = j := by rw [Nat.mul_comm, Nat.mul_add_mod, Nat.mod_eq_of_lt hj]
  simp only [ei, ej] at hc
  exact hc

/-- Rows put in the place of rows. -/
theorem flatten_take {sz : Nat} : ∀ {rows : List (List Value)} {i : Nat}, (∀ r ∈ rows, r.length = sz) → i ≤ rows.length → rows.flatten.take (i * sz) = (rows.take i).flatten
  | _, 0, _, _ => by simp
  | [], i + 1, _, h => by simp at h
  | r :: rs, i + 1, hr, h => by
    have h0 := hr r (List.mem_cons_self ..)
    rw [List.flatten_cons, List.take_succ_cons, List.flatten_cons, Nat.add_mul, Nat.one_mul, Nat.add_comm, ← h0, List.take_length_add_append, h0, flatten_take (fun x hx => hr x (List.mem_cons_of_mem _ hx)) (by simpa using h)]
theorem flatten_drop {sz : Nat} : ∀ {rows : List (List Value)} {i : Nat}, (∀ r ∈ rows, r.length = sz) → i ≤ rows.length → rows.flatten.drop (i * sz) = (rows.drop i).flatten
  | _, 0, _, _ => by simp
  | [], i + 1, _, h => by simp at h
  | r :: rs, i + 1, hr, h => by
    have h0 := hr r (List.mem_cons_self ..)
    rw [List.flatten_cons, List.drop_succ_cons, Nat.add_mul, Nat.one_mul, Nat.add_comm, ← h0, List.drop_length_add_append, h0, flatten_drop (fun x hx => hr x (List.mem_cons_of_mem _ hx)) (by simpa using h)]
/-- A part of one row changed. -/
theorem lay_rows {sz i x : Nat} {rows : List (List Value)} {l : List Value} (hr : ∀ r ∈ rows, r.length = sz) (hi : i < rows.length) (hl : x + l.length ≤ sz) : lay rows.flatten (i * sz + x) l = (rows.set i (lay rows[i] x l)).flatten := by
  have hri := hr _ (List.getElem_mem hi)
  have hsplit : rows.flatten = (rows.take i).flatten ++ (rows[i] ++ (rows.drop (i + 1)).flatten) := by
    rw [← List.flatten_cons, ← List.drop_eq_getElem_cons hi, ← List.flatten_append, List.take_append_drop]
  have hlen : ((rows.take i).flatten).length = i * sz := by
    rw [flatten_length (n := sz) (fun r h => hr r (List.mem_of_mem_take h)), List.length_take]
    congr 1; omega
  have hset : rows.set i (lay rows[i] x l) = rows.take i ++ (lay rows[i] x l :: rows.drop (i + 1)) := by
    rw [List.set_eq_take_append_cons_drop, if_pos hi]
  rw [hset, List.flatten_append, List.flatten_cons, hsplit]
  unfold lay
  rw [← hlen, List.take_length_add_append, List.take_append_of_le_length (by omega), Nat.add_assoc, List.drop_length_add_append, List.drop_append_of_le_length (by omega)]
  simp only [List.append_assoc]
section
variable {h0 h : Heap} {F : List HP} {sz : Nat} {p : Option Addr} {l c : Nat} {rows : List (List Value)}
theorem rows_count {sz n : Nat} {rows : List (List Value)} (hr : ∀ r ∈ rows, r.length = sz) (hz : 0 < sz) (h : rows.flatten.length = n * sz) : rows.length = n := by
  rw [flatten_length hr] at h
  exact Nat.eq_of_mul_eq_mul_right hz h
theorem St.rowGet (hs : St h0 h (own sz p l c rows.flatten :: F)) (hr : ∀ r ∈ rows, r.length = sz) (hz : 0 < sz) {i : Nat} (hi : i < rows.length) :
    ∃ b o, p = some (Addr.mk b o none) ∧ Vc.row h (Addr.mk b (o + i * sz) none) sz = some rows[i].toArray ∧ ∀ j v, rows[i][j]? = some v → Vc.cell h (Addr.mk b (o + i * sz + j) none) = some v := by
  have hl := rows_count hr hz hs.len.1
  obtain ⟨b, o, e, hc⟩ := rows_get (rd_own hs.at) hl hr hz (i := i) (by omega)
  have hri := hr _ (List.getElem_mem hi)
  refine ⟨b, o, e, ?_, fun j v hv => ?_⟩
  · have := row_of (h := h) (a := Addr.mk b (o + i * sz) none) rows[i] fun j hj => by
      rw [add_mk]
      exact hc j (by omega) hi hj
    rwa [hri] at this
  · obtain ⟨h1, h2⟩ := List.getElem?_eq_some_iff.1 hv
    rw [← h2]
    exact hc j (by omega) hi h1
theorem own_pts {vs : List Value} {b o : Nat} (hs : St h0 h (own sz (some (Addr.mk b o none)) l c vs :: F)) : ∃ rest, rest.length = (c - l) * sz ∧ St h0 h (pts b o false (vs ++ rest) :: F) := by
  obtain ⟨e, m, ⟨m1, m2, a, b', cc, ⟨_, _, _, d⟩, s⟩, t, u⟩ := hs
  rcases d with ⟨h1, _⟩ | ⟨x, y, rest, h1, h2, h3⟩
  · cases h1
  · cases h1
    exact ⟨rest, h2, e, m, ⟨m1, m2, a, b', cc, h3, s⟩, t, u⟩
theorem pts_own {vs rest : List Value} {b o : Nat} (hl : vs.length = l * sz) (hlc : l ≤ c) (hc : c ≤ maxLen) (hr : rest.length = (c - l) * sz) (hs : St h0 h (pts b o false (vs ++ rest) :: F)) : St h0 h (own sz (some (Addr.mk b o none)) l c vs :: F) :=
  hs.impl fun m q => ⟨hl, hlc, hc, .inr ⟨b, o, rest, rfl, hr, q⟩⟩
theorem lay_append {vs rest l : List Value} {i : Nat} (h : i + l.length ≤ vs.length) : lay (vs ++ rest) i l = lay vs i l ++ rest := by
  unfold lay
  rw [List.take_append_of_le_length (by omega), List.drop_append_of_le_length (by omega)]
  simp
/-- A run of cells stored into what is ours. -/
theorem St.ownStore {vs : List Value} {b o x n : Nat} {cs : Array Value} {K : Heap → Prop} (hs : St h0 h (own sz (some (Addr.mk b o none)) l c vs :: F)) (hn : cs.size = n) (hx : x + n ≤ l * sz) (ho : one cs)
    (hk : ∀ h', St h0 h' (own sz (some (Addr.mk b o none)) l c (lay vs x cs.toList) :: F) → K h') : Vc.storeP (some n) h (Addr.mk b (o + x) none) (.agg cs) K := by
  obtain ⟨h1, h2, h3⟩ := hs.len
  obtain ⟨rest, hr, s⟩ := own_pts hs
  have hcs : (Value.agg cs).cells = cs := rfl
  refine s.storeRow (v := .agg cs) (by rw [hcs]; exact hn) (by simp; omega) (by rw [hcs]; exact ho) fun h' s => hk h' ?_
  rw [hcs, lay_append (by simp [hn]; omega)] at s
  exact pts_own (by rw [lay_length (by simp [hn]; omega)]; exact h1) h2 h3 hr s
/-- One cell stored into what is ours. -/
theorem St.ownStore1 {vs : List Value} {b o x : Nat} {v : Value} {K : Heap → Prop} (hs : St h0 h (own sz (some (Addr.mk b o none)) l c vs :: F)) (hx : x < l * sz) (hv : v.oneCell' = true)
    (hk : ∀ h', St h0 h' (own sz (some (Addr.mk b o none)) l c (vs.set x v) :: F) → K h') : Vc.storeP none h (Addr.mk b (o + x) none) v K := by
  obtain ⟨h1, h2, h3⟩ := hs.len
  obtain ⟨rest, hr, s⟩ := own_pts hs
  refine s.storeP (by simp; omega) hv fun h' s => hk h' ?_
  rw [List.set_append_left _ _ (by omega)] at s
  exact pts_own (by simpa using h1) h2 h3 hr s
/-- copy, into what is ours. -/
theorem St.ownCopy {vs : List Value} {b o x sz' m n k : Nat} {q : Option Addr} {news : List Value} {K : Int → Heap → Prop} (hs : St h0 h (own sz (some (Addr.mk b o none)) l c vs :: F)) (hk0 : Nat.min n m * sz' = k) (hx : x + k ≤ l * sz)
    (hsrc : src h q k = some news.toArray) (hn : news.length = k) (ho : ∀ v ∈ news, v.oneCell' = true) (hk : ∀ h', St h0 h' (own sz (some (Addr.mk b o none)) l c (lay vs x news) :: F) → K (Nat.min n m : Nat) h') :
    copyP sz' (some (Addr.mk b (o + x) none)) m q n h K := by
  obtain ⟨h1, h2, h3⟩ := hs.len
  obtain ⟨rest, hr, s⟩ := own_pts hs
  obtain ⟨s2, w⟩ := St.putRow news (vs ++ rest) h 0 x s (by simp; omega)
  refine ⟨news.toArray, by rw [hk0]; exact hsrc, by simpa [one] using ho, fun a ha j hj => ?_, fun h' e => ?_⟩
  · cases ha
    rw [add_mk]
    exact w j (Nat.zero_le _) (by omega)
  · simp only at e
    subst e
    refine hk _ ?_
    rw [Nat.add_zero, lay_append (by omega)] at s2
    exact pts_own (by rw [lay_length (by omega)]; exact h1) h2 h3 hr s2
/-- The same, over the cells of a block. -/
theorem St.ptsCopy {vs : List Value} {b x sz' m n k : Nat} {q : Option Addr} {news : List Value} {K : Int → Heap → Prop} (hs : St h0 h (pts b 0 false vs :: F)) (hk0 : Nat.min n m * sz' = k) (hx : x + k ≤ vs.length)
    (hsrc : src h q k = some news.toArray) (hn : news.length = k) (ho : ∀ v ∈ news, v.oneCell' = true) (hk : ∀ h', St h0 h' (pts b 0 false (lay vs x news) :: F) → K (Nat.min n m : Nat) h') :
    copyP sz' (some (Addr.mk b x none)) m q n h K := by
  obtain ⟨s2, w⟩ := St.putRow (o := 0) news vs h 0 x hs (by omega)
  refine ⟨news.toArray, by rw [hk0]; exact hsrc, by simpa [one] using ho, fun a ha j hj => ?_, fun h' e => ?_⟩
  · cases ha
    rw [add_mk]
    have := w j (Nat.zero_le _) (by omega)
    rwa [Nat.zero_add] at this
  · simp only at e
    subst e
    refine hk _ ?_
    rw [Nat.add_zero, Nat.zero_add] at s2
    exact s2
end
end Go.Vc
