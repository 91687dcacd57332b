/- Layer 9: a log's pages on a device that may lose its power (no program in sight). -/
import Derived.Test.Ytgeoelahfljefaa9j
set_option linter.unusedVariables false
set_option maxRecDepth 100000
namespace Go.Proofs.Ytgeoelahfljefaa
open Go Go.Vc Go.Proofs
/-- What waits for a page. -/
def qAt (Q : List (Nat × List UInt8)) (i : Nat) : List Page := (Q.filter fun w => w.1 == i).map (·.2)
theorem qAt_snoc (Q : List (Nat × List UInt8)) (i j : Nat) (x : Page) : qAt (Q ++ [(i, x)]) j = qAt Q j ++ (if i = j then [x] else []) := by
  unfold qAt
  rw [List.filter_append, List.map_append]
  congr 1
  by_cases h : i = j <;> simp [h]
theorem qAt_cons (w : Nat × List UInt8) (Q : List (Nat × List UInt8)) (j : Nat) : qAt (w :: Q) j = (if w.1 = j then [w.2] else []) ++ qAt Q j := by
  unfold qAt
  by_cases h : w.1 = j <;> simp [h]
theorem getD_set_ne {L : List Page} {i j : Nat} {x : Page} (h : i ≠ j) : (L.set i x).getD j [] = L.getD j [] := by
  rw [List.getD_eq_getElem?_getD, List.getElem?_set_ne h, ← List.getD_eq_getElem?_getD]
theorem getD_set_eq {L : List Page} {i : Nat} {x : Page} (h : i < L.length) : (L.set i x).getD i [] = x := by
  rw [List.getD_eq_getElem?_getD, List.getElem?_set_self h]; rfl
theorem seen_free {i : Nat} : ∀ (Q : List (Nat × List UInt8)) (L : List Page), qAt Q i = [] → (applyQ L Q).getD i [] = L.getD i []
  | [], L, _ => rfl
  | w :: Q, L, h => by
    rw [qAt_cons] at h
    have h2 := (List.append_eq_nil_iff.1 h)
    have hw : w.1 ≠ i := fun e => by rw [if_pos e] at h2; exact absurd h2.1 (by simp)
    have : applyQ L (w :: Q) = applyQ (L.set w.1 w.2) Q := rfl
    rw [this, seen_free Q _ h2.2, getD_set_ne hw]
theorem seen_wait {i : Nat} {x : Page} : ∀ (Q : List (Nat × List UInt8)) (L : List Page), i < L.length → qAt Q i = [x] → (applyQ L Q).getD i [] = x
  | [], L, _, h => by cases h
  | w :: Q, L, hi, h => by
    rw [qAt_cons] at h
    have e : applyQ L (w :: Q) = applyQ (L.set w.1 w.2) Q := rfl
    rw [e]
    by_cases hw : w.1 = i
    · rw [if_pos hw] at h
      have h2 : w.2 = x ∧ qAt Q i = [] := by simpa using h
      rw [seen_free Q _ h2.2, hw, getD_set_eq hi, h2.1]
    · rw [if_neg hw] at h
      exact seen_wait Q _ (by simpa using hi) (by simpa using h)
theorem rest_free {i : Nat} : ∀ (Q : List (Nat × List UInt8)) (L : List Page) (list : List Int), qAt Q i = [] → (restL L Q list).getD i [] = L.getD i []
  | [], L, _, _ => rfl
  | w :: Q, L, list, h => by
    rw [qAt_cons] at h
    have h2 := (List.append_eq_nil_iff.1 h)
    have hw : w.1 ≠ i := fun e => by rw [if_pos e] at h2; exact absurd h2.1 (by simp)
    cases list with
    | nil => rw [restL, rest_free Q _ [] h2.2, getD_set_ne hw]
    | cons t ts => rw [restL, rest_free Q _ ts h2.2, getD_set_ne hw]
theorem rest_wait {i : Nat} {x : Page} : ∀ (Q : List (Nat × List UInt8)) (L : List Page) (list : List Int), i < L.length → qAt Q i = [x] → ∃ t, (restL L Q list).getD i [] = mixed (L.getD i []) x t
  | [], L, _, _, h => by cases h
  | w :: Q, L, list, hi, h => by
    rw [qAt_cons] at h
    by_cases hw : w.1 = i
    · rw [if_pos hw] at h
      have h2 : w.2 = x ∧ qAt Q i = [] := by simpa using h
      cases list with
      | nil => exact ⟨0, by rw [restL, rest_free Q _ [] h2.2, hw, getD_set_eq hi, h2.1]⟩
      | cons t ts => exact ⟨t, by rw [restL, rest_free Q _ ts h2.2, hw, getD_set_eq hi, h2.1]⟩
    · rw [if_neg hw] at h
      cases list with
      | nil =>
        obtain ⟨t, e⟩ := rest_wait Q (L.set w.1 (mixed (L.getD w.1 []) w.2 0)) [] (by simpa using hi) (by simpa using h)
        exact ⟨t, by rw [restL, e, getD_set_ne hw]⟩
      | cons t ts =>
        obtain ⟨t', e⟩ := rest_wait Q (L.set w.1 (mixed (L.getD w.1 []) w.2 t)) ts (by simpa using hi) (by simpa using h)
        exact ⟨t', by rw [restL, e, getD_set_ne hw]⟩
/-- Pages W were written over B, from position s on, of which the first f last and the others wait. -/
structure Core (D : Dev) (n start count s f : Nat) (B W : List Page) : Prop where
  wf : D.Wf n
  fit : start + count ≤ n
  fl : f ≤ W.length
  room : s + W.length ≤ count
  lasts : ∀ j, j < count → D.lasts.getD (start + j) [] = if s ≤ j ∧ j < s + f then W.getD (j - s) [] else B.getD j []
  queue : ∀ j, j < count → qAt D.queue (start + j) = if s + f ≤ j ∧ j < s + W.length then [W.getD (j - s) []] else []
section
variable {D : Dev} {n start count s f : Nat} {B W : List Page}
/-- What does not touch the log's pages. -/
theorem Core.same {D' : Dev} (c : Core D n start count s f B W) (wf : D'.Wf n) (hl : ∀ j, j < count → D'.lasts.getD (start + j) [] = D.lasts.getD (start + j) []) (hq : ∀ j, j < count → qAt D'.queue (start + j) = qAt D.queue (start + j)) : Core D' n start count s f B W :=
  ⟨wf, c.fit, c.fl, c.room, fun j hj => by rw [hl j hj, c.lasts j hj], fun j hj => by rw [hq j hj, c.queue j hj]⟩
theorem Core.op (c : Core D n start count s f B W) : Core (opD D) n start count s f B W := c.same (opD_wf c.wf) (fun _ _ => by rw [opD_lasts]) (fun _ _ => by rw [opD_queue])
theorem Core.fuse (c : Core D n start count s f B W) {k : Int} (hk : k ≤ 9223372036854775807) : Core (fuseD D k) n start count s f B W := c.same (fuseD_wf c.wf hk) (fun _ _ => rfl) (fun _ _ => rfl)
theorem getD_snoc {W : List Page} {x : Page} {j : Nat} (h : j < W.length) : (W ++ [x]).getD j [] = W.getD j [] := by
  rw [List.getD_eq_getElem?_getD, List.getElem?_append_left h, ← List.getD_eq_getElem?_getD]
theorem getD_snoc_last {W : List Page} {x : Page} : (W ++ [x]).getD W.length [] = x := by
  rw [List.getD_eq_getElem?_getD, List.getElem?_append_right (Nat.le_refl _), Nat.sub_self]; rfl
/-- A page is written, or the power is gone. -/
theorem Core.write (c : Core D n start count s f B W) {x : Page} (hx : x.length = 128) (hr : s + W.length < count) :
    ((writeD D ((start + s + W.length : Nat) : Int) x).1 = 0 ∧ (writeD D ((start + s + W.length : Nat) : Int) x).2.down = false ∧ Core (writeD D ((start + s + W.length : Nat) : Int) x).2 n start count s f B (W ++ [x])) ∨
    ((writeD D ((start + s + W.length : Nat) : Int) x).1 = 6 ∧ (writeD D ((start + s + W.length : Nat) : Int) x).2.down = true ∧ Core (writeD D ((start + s + W.length : Nat) : Int) x).2 n start count s f B W) := by
  have hf := c.fit
  cases hd : D.down
  rotate_left
  · have e : writeD D ((start + s + W.length : Nat) : Int) x = (6, D) := by rw [writeD, if_pos (by rw [reach_down hd]; omega), reach_down hd]
    rw [e]
    exact .inr ⟨rfl, hd, c⟩
  have hi : start + s + W.length < n := by omega
  cases ho : (opD D).down
  rotate_left
  · have e : writeD D ((start + s + W.length : Nat) : Int) x = (6, opD D) := by rw [writeD, if_neg (by simpa using reach_zero c.wf hd hi), if_neg (by simp [hx]), if_pos ho]
    rw [e]
    exact .inr ⟨rfl, ho, c.op⟩
  have wf := writeD_wf c.wf ((start + s + W.length : Nat) : Int) x
  have e := writeD_zero c.wf hd hi hx ho
  rw [e] at wf ⊢
  refine .inl ⟨rfl, ho, wf, c.fit, by rw [List.length_append]; have := c.fl; omega, by rw [List.length_append]; simp; omega, fun j hj => ?_, fun j hj => ?_⟩
  · show (opD D).lasts.getD (start + j) [] = _
    rw [opD_lasts, c.lasts j hj]
    have := c.fl
    by_cases h : s ≤ j ∧ j < s + f
    · rw [if_pos h, if_pos h, getD_snoc (by omega)]
    · rw [if_neg h, if_neg h]
  · show qAt (D.queue ++ [(start + s + W.length, x)]) (start + j) = _
    rw [qAt_snoc, c.queue j hj, List.length_append]
    have := c.fl
    by_cases h : s + f ≤ j ∧ j < s + W.length
    · rw [if_pos h, if_neg (by omega), if_pos ⟨h.1, by omega⟩, getD_snoc (by omega)]; rfl
    · rw [if_neg h]
      by_cases he : start + s + W.length = start + j
      · rw [if_pos he, if_pos ⟨by omega, by simp; omega⟩]
        have : j - s = W.length := by omega
        rw [this, getD_snoc_last]; rfl
      · rw [if_neg he, if_neg (by simp; omega)]; rfl
/-- Another page is written. -/
theorem Core.other (c : Core D n start count s f B W) {i : Int} {xs : List UInt8} (hi : i < start ∨ (start + count : Nat) ≤ i) : Core (writeD D i xs).2 n start count s f B W ∧ (D.down = true → (writeD D i xs).2.down = true) := by
  have wf := writeD_wf c.wf i xs
  unfold writeD at wf ⊢
  split
  · exact ⟨c, id⟩
  · rename_i hr
    split
    · exact ⟨c, id⟩
    · rename_i hx
      rw [if_neg hr, if_neg hx] at wf
      obtain ⟨hdn, h0, h1⟩ := reach_in c.wf (by simpa using hr)
      split
      · exact ⟨c.op, fun h => by rw [hdn] at h; cases h⟩
      · rename_i hd
        rw [if_neg hd] at wf
        refine ⟨c.same wf (fun j _ => by show (opD D).lasts.getD _ _ = _; rw [opD_lasts]) fun j hj => ?_, fun h => by rw [hdn] at h; cases h⟩
        show qAt (D.queue ++ [(i.toNat, xs)]) (start + j) = _
        rw [qAt_snoc, if_neg (by omega), List.append_nil]
theorem Core.seen (c : Core D n start count s f B W) {j : Nat} (hj : j < count) : D.seen.getD (start + j) [] = if s ≤ j ∧ j < s + W.length then W.getD (j - s) [] else B.getD j [] := by
  have hq := c.queue j hj
  have hl := c.lasts j hj
  have := c.fl
  have hn := c.wf.len
  have := c.fit
  unfold Dev.seen
  by_cases h : s + f ≤ j ∧ j < s + W.length
  · rw [if_pos h] at hq
    rw [seen_wait _ _ (by omega) hq, if_pos (by omega)]
  · rw [if_neg h] at hq
    rw [seen_free _ _ hq, hl]
    by_cases h2 : s ≤ j ∧ j < s + f
    · rw [if_pos h2, if_pos (by omega)]
    · rw [if_neg h2, if_neg (by omega)]
/-- All pages are made to last, or the power is gone. -/
theorem Core.flush (c : Core D n start count s f B W) :
    ((flushD D).1 = 0 ∧ D.down = false ∧ (flushD D).2.down = false ∧ Core (flushD D).2 n start count s W.length B W) ∨ ((flushD D).1 = 6 ∧ (flushD D).2.down = true ∧ Core (flushD D).2 n start count s f B W) := by
  cases hd : D.down
  rotate_left
  · have e : flushD D = (6, D) := by rw [flushD, if_pos hd]
    rw [e]
    exact .inr ⟨rfl, hd, c⟩
  cases ho : (opD D).down
  rotate_left
  · have e : flushD D = (6, opD D) := by rw [flushD, if_neg (by simp [hd]), if_pos ho]
    rw [e]
    exact .inr ⟨rfl, ho, c.op⟩
  have wf := flushD_wf c.wf
  have e := flushD_zero hd ho
  rw [e] at wf ⊢
  refine .inl ⟨rfl, rfl, ho, wf, c.fit, Nat.le_refl _, c.room, fun j hj => c.seen hj, fun j hj => ?_⟩
  rw [if_neg (by omega)]
  rfl
theorem Core.restart (c : Core D n start count s f B W) (list : List Int) {j : Nat} (hj : j < count) :
    ((restartD D list).lasts.getD (start + j) [] = if s ≤ j ∧ j < s + f then W.getD (j - s) [] else B.getD j []) ∧ ¬(s + f ≤ j ∧ j < s + W.length) ∨
    (s + f ≤ j ∧ j < s + W.length) ∧ ∃ t, (restartD D list).lasts.getD (start + j) [] = mixed (B.getD j []) (W.getD (j - s) []) t := by
  have hq := c.queue j hj
  have hl := c.lasts j hj
  have hn := c.wf.len
  have := c.fit
  show ((restL D.lasts D.queue list).getD (start + j) [] = _) ∧ _ ∨ _ ∧ ∃ t, (restL D.lasts D.queue list).getD (start + j) [] = _
  by_cases h : s + f ≤ j ∧ j < s + W.length
  · rw [if_pos h] at hq
    obtain ⟨t, e⟩ := rest_wait D.queue D.lasts list (by omega) hq
    refine .inr ⟨h, t, ?_⟩
    rw [e, hl, if_neg (by omega)]
  · rw [if_neg h] at hq
    exact .inl ⟨by rw [rest_free _ _ _ hq, hl], h⟩
end
theorem mixL_of : ∀ (W B R : List Page) (f : Nat), W.length ≤ B.length → R.length = B.length → (∀ j, j < W.length → R.getD j [] = W.getD j [] ∨ (f ≤ j ∧ (R.getD j [] = B.getD j [] ∨ Bad (R.getD j [])))) → (∀ j, W.length ≤ j → R.getD j [] = B.getD j []) → MixL f W B R
  | [], B, R, f, _, hl, _, h => by
    show R = B
    apply List.ext_getElem hl
    intro j h1 h2
    have := h j (Nat.zero_le _)
    rwa [List.getD_eq_getElem?_getD, List.getD_eq_getElem?_getD, List.getElem?_eq_getElem h1, List.getElem?_eq_getElem h2] at this
  | w :: W, b :: B, r :: R, f, hw, hl, h1, h2 => by
    refine ⟨?_, mixL_of W B R (f - 1) (by simpa using hw) (by simpa using hl) (fun j hj => ?_) fun j hj => ?_⟩
    · rcases h1 0 (by simp) with h | ⟨h, h'⟩
      · exact .inl h
      · exact .inr ⟨by omega, h'⟩
    · rcases h1 (j + 1) (by simpa using hj) with h | ⟨h, h'⟩
      · exact .inl h
      · exact .inr ⟨by omega, h'⟩
    · exact h2 (j + 1) (by simpa using hj)
  | _ :: _, [], _, _, hw, _, _, _ => by simp at hw
  | _ :: _, _ :: _, [], _, _, hl, _, _ => by simp at hl
end Go.Proofs.Ytgeoelahfljefaa
