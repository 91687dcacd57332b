/- Layer 8: what each call does to a slot, wherever the power goes (no program in sight). -/
import Derived.Test.Ytkeggnfffnodmaa8h
set_option linter.unusedVariables false
set_option maxRecDepth 100000
namespace Go.Proofs.Ytkeggnfffnodmaa
open Go Go.Vc Go.Proofs
theorem restL_stays : ∀ (Q : List (Nat × List UInt8)) (L : List (List UInt8)) (list : List Int) (i : Nat), (∀ w ∈ Q, w.1 ≠ i) → (restL L Q list).getD i [] = L.getD i []
  | [], L, _, i, _ => rfl
  | w :: Q, L, list, i, h => by
    have hw := h w (List.mem_cons_self ..)
    have e : ∀ x, (L.set w.1 x).getD i [] = L.getD i [] := fun x => by
      rw [List.getD_eq_getElem?_getD, List.getElem?_set_ne hw, ← List.getD_eq_getElem?_getD]
    cases list with
    | nil => rw [restL, restL_stays Q _ [] i fun x hx => h x (List.mem_cons_of_mem _ hx), e]
    | cons t ts => rw [restL, restL_stays Q _ ts i fun x hx => h x (List.mem_cons_of_mem _ hx), e]
theorem applyQ_stays {Q : List (Nat × List UInt8)} {L : List (List UInt8)} {i : Nat} (h : ∀ w ∈ Q, w.1 ≠ i) : (applyQ L Q).getD i [] = L.getD i [] := by
  have := seen_none (L := L) (Q := Q) (i := i) (fun j hj => h _ (List.getElem_mem hj)) Q.length (Nat.le_refl _)
  rwa [List.take_length] at this
def Free (Q : List (Nat × List UInt8)) : Prop := ∀ w ∈ Q, w.1 ≠ 2 ∧ w.1 ≠ 3
structure Inv (D : Dev) (c : Nat) (v : List UInt8) (M : List (List UInt8)) : Prop where
  wf : D.Wf 5
  base : Base D.lasts c v
  mem : v ∈ M
  queue : Free D.queue ∨ (D.down = true ∧ ∃ Q x, D.queue = Q ++ [(2 + (c + 1) % 2, pageB (c + 1) x)] ∧ Free Q ∧ x.length ≤ 110 ∧ x ∈ M)
  small : ∀ y ∈ M, y.length ≤ 110
theorem Base.seen {D : Dev} {c : Nat} {v : List UInt8} (b : Base D.lasts c v) (hf : Free D.queue) : Base D.seen c v :=
  b.congr (applyQ_stays fun w hw => (hf w hw).1) (applyQ_stays fun w hw => (hf w hw).2)
theorem opD_fuse (D : Dev) : (opD D).down = D.down ∨ (opD D).down = true := by
  unfold opD
  split
  · exact .inr rfl
  · split <;> exact .inl rfl
theorem Inv.op {D : Dev} {c : Nat} {v : List UInt8} {M : List (List UInt8)} (i : Inv D c v M) : Inv (opD D) c v M := by
  refine ⟨opD_wf i.wf, by rw [opD_lasts]; exact i.base, i.mem, ?_, i.small⟩
  rw [opD_queue]
  rcases i.queue with h | ⟨h, r⟩
  · exact .inl h
  · refine .inr ⟨?_, r⟩
    rcases opD_fuse D with e | e
    · rw [e]; exact h
    · exact e
theorem Inv.more {D : Dev} {c : Nat} {v x : List UInt8} {M : List (List UInt8)} (i : Inv D c v M) (hx : x.length ≤ 110) : Inv D c v (M ++ [x]) :=
  ⟨i.wf, i.base, List.mem_append_left _ i.mem, i.queue.imp id fun ⟨h, Q, y, a, b, d, e⟩ => ⟨h, Q, y, a, b, d, List.mem_append_left _ e⟩, fun y hy => by
    rcases List.mem_append.1 hy with h | h
    · exact i.small y h
    · rw [List.mem_singleton.1 h]; exact hx⟩
theorem Inv.fuse {D : Dev} {c : Nat} {v : List UInt8} {M : List (List UInt8)} (i : Inv D c v M) {n : Int} (hn : n ≤ 9223372036854775807) : Inv (fuseD D n) c v M := ⟨fuseD_wf i.wf hn, i.base, i.mem, i.queue, i.small⟩
theorem Inv.write {D : Dev} {c : Nat} {v xs : List UInt8} {M : List (List UInt8)} (i : Inv D c v M) {a : Int} (h2 : a ≠ 2) (h3 : a ≠ 3) : Inv (writeD D a xs).2 c v M := by
  have wf := writeD_wf i.wf a xs
  unfold writeD at wf ⊢
  split
  · exact i
  · rename_i hr
    split
    · exact i
    · rename_i hx
      rw [if_neg hr, if_neg hx] at wf
      split
      · exact i.op
      · rename_i hd
        rw [if_neg hd] at wf
        obtain ⟨hdn, h0, h1⟩ := reach_in i.wf (by simpa using hr)
        refine ⟨wf, by show Base (opD D).lasts c v; rw [opD_lasts]; exact i.base, i.mem, .inl ?_, i.small⟩
        rcases i.queue with h | ⟨h, _⟩
        · intro w hw
          rcases List.mem_append.1 hw with hw | hw
          · exact h w hw
          · simp only [List.mem_singleton] at hw
            subst hw
            simp only
            omega
        · rw [h] at hdn; cases hdn
theorem loadD_down {D : Dev} (h : D.down = true) (a : Int) : loadD D a = ((0, []), 6) := by
  have : readD D a = ([], 6) := by rw [readD, if_neg (by rw [reach_down h]; omega), reach_down h]
  rw [loadD, this, if_pos (by simp)]
theorem saveD_down {D : Dev} (h : D.down = true) (a : Int) {xs : List UInt8} (hx : xs.length ≤ 110) : saveD D a xs = ((0, 6), D) := by
  rw [saveD, loadD_down h, if_neg (by omega), if_pos (by simp)]
theorem Inv.save {D : Dev} {c : Nat} {v x : List UInt8} {M : List (List UInt8)} (i : Inv D c v M) (hx : x.length ≤ 110) (hc : c + 3 < 18446744073709551616) :
    ((saveD D 2 x).1.2 = 0 ∧ Inv (saveD D 2 x).2 (c + 1) x [x]) ∨ ((saveD D 2 x).1.2 ≠ 0 ∧ Inv (saveD D 2 x).2 c v (M ++ [x])) := by
  cases hd : D.down
  rotate_left
  · rw [saveD_down hd _ hx]
    exact .inr ⟨by simp, i.more hx⟩
  have hf : Free D.queue := by
    rcases i.queue with h | ⟨h, _⟩
    · exact h
    · rw [hd] at h; cases h
  have u : Up D 5 := ⟨i.wf, hd⟩
  have hl : loadD D 2 = ((c, v), 0) := load_slot (a := 2) u (by omega) ((i.base.seen hf).slot (by omega))
  have hi : 2 + (c + 1) % 2 < 5 := by omega
  have ea : ((2 : Int) + (((c + 1) % 2 : Nat) : Int)) = ((2 + (c + 1) % 2 : Nat) : Int) := by omega
  have hsv : saveD D 2 x = if (writeD D ((2 + (c + 1) % 2 : Nat) : Int) (pageB (c + 1) x)).1 ≠ 0 then ((0, (writeD D ((2 + (c + 1) % 2 : Nat) : Int) (pageB (c + 1) x)).1), (writeD D ((2 + (c + 1) % 2 : Nat) : Int) (pageB (c + 1) x)).2)
      else if (flushD (writeD D ((2 + (c + 1) % 2 : Nat) : Int) (pageB (c + 1) x)).2).1 ≠ 0 then ((0, (flushD (writeD D ((2 + (c + 1) % 2 : Nat) : Int) (pageB (c + 1) x)).2).1), (flushD (writeD D ((2 + (c + 1) % 2 : Nat) : Int) (pageB (c + 1) x)).2).2)
      else ((c + 1, 0), (flushD (writeD D ((2 + (c + 1) % 2 : Nat) : Int) (pageB (c + 1) x)).2).2) := by
    rw [saveD, hl, if_neg (by omega), if_neg (by simp)]
    dsimp only
    rw [if_neg (by omega), ea]
  rw [hsv]
  clear hsv
  have wf := writeD_wf i.wf ((2 + (c + 1) % 2 : Nat) : Int) (pageB (c + 1) x)
  cases ho : (opD D).down
  rotate_left
  · have hw : writeD D ((2 + (c + 1) % 2 : Nat) : Int) (pageB (c + 1) x) = (6, opD D) := by rw [writeD, if_neg (by simpa using reach_zero i.wf hd hi), if_neg (by rw [pageB_length hx]; simp), if_pos ho]
    rw [hw]
    dsimp only
    rw [if_pos (by simp)]
    exact .inr ⟨by simp, i.op.more hx⟩
  have hw := writeD_zero i.wf hd hi (pageB_length (s := c + 1) hx) ho
  rw [hw] at wf ⊢
  dsimp only at wf ⊢
  rw [if_neg (by simp)]
  generalize hE : ({ opD D with queue := D.queue ++ [(2 + (c + 1) % 2, pageB (c + 1) x)] } : Dev) = E at *
  have el : E.lasts = D.lasts := by rw [← hE]; exact opD_lasts D
  have eq : E.queue = D.queue ++ [(2 + (c + 1) % 2, pageB (c + 1) x)] := by rw [← hE]
  have ed : E.down = false := by rw [← hE]; exact ho
  cases ho2 : (opD E).down
  rotate_left
  · have hfl : flushD E = (6, opD E) := by rw [flushD, if_neg (by simp [ed]), if_pos ho2]
    rw [hfl]
    dsimp only
    rw [if_pos (by simp)]
    refine .inr ⟨by simp, opD_wf wf, by rw [opD_lasts, el]; exact i.base, List.mem_append_left _ i.mem, .inr ⟨ho2, D.queue, x, by rw [opD_queue, eq], hf, hx, List.mem_append_right _ (List.mem_singleton.2 rfl)⟩, (i.more hx).small⟩
  have hfl := flushD_zero ed ho2
  have wfl := flushD_wf wf
  rw [hfl] at wfl ⊢
  dsimp only at wfl ⊢
  rw [if_neg (by simp)]
  refine .inl ⟨rfl, wfl, ?_, List.mem_singleton.2 rfl, .inl (fun w hw => by cases hw), fun y hy => by rw [List.mem_singleton.1 hy]; exact hx⟩
  show Base E.seen (c + 1) x
  have es : E.seen = D.seen.set (2 + (c + 1) % 2) (pageB (c + 1) x) := by
    rw [Dev.seen, el, eq, applyQ_snoc]; rfl
  rw [es]
  exact (i.base.seen hf).next (by rw [i.wf.seenLen]; omega) hx (by omega)
theorem restL_congr {L : List (List UInt8)} {Q : List (Nat × List UInt8)} {list : List Int} (hf : Free Q) : (restL L Q list).getD 2 [] = L.getD 2 [] ∧ (restL L Q list).getD 3 [] = L.getD 3 [] :=
  ⟨restL_stays Q L list 2 fun w hw => (hf w hw).1, restL_stays Q L list 3 fun w hw => (hf w hw).2⟩
theorem Inv.restart {D : Dev} {c : Nat} {v : List UInt8} {M : List (List UInt8)} (i : Inv D c v M) (hc : c + 3 < 18446744073709551616) (list : List Int) :
    ∃ c' v', c' ≤ c + 1 ∧ v' ∈ M ∧ Inv (restartD D list) c' v' [v'] ∧ loadD (restartD D list) 2 = ((c', v'), 0) := by
  have wr := restartD_wf i.wf list
  have key : ∀ c' v', c' ≤ c + 1 → v' ∈ M → Base (restL D.lasts D.queue list) c' v' → ∃ c' v', c' ≤ c + 1 ∧ v' ∈ M ∧ Inv (restartD D list) c' v' [v'] ∧ loadD (restartD D list) 2 = ((c', v'), 0) :=
    fun c' v' h1 h2 hb => ⟨c', v', h1, h2, ⟨wr, hb, List.mem_singleton.2 rfl, .inl (fun w hw => by cases hw), fun y hy => by rw [List.mem_singleton.1 hy]; exact i.small _ h2⟩, load_slot (a := 2) ⟨wr, rfl⟩ (by omega) (Base.slot hb (by omega))⟩
  rcases i.queue with hf | ⟨_, Q, x, hq, hf, hx, hm⟩
  · obtain ⟨e2, e3⟩ := restL_congr (L := D.lasts) (list := list) hf
    exact key c v (by omega) i.mem (i.base.congr e2 e3)
  · obtain ⟨e2, e3⟩ := restL_congr (L := D.lasts) (list := list) hf
    have hb := i.base.congr e2 e3
    rw [hq, restL_snoc] at key
    have hlen : (restL D.lasts Q list).length = 5 := (restL_wf Q D.lasts list i.wf.len i.wf.pages fun w hw => i.wf.waits w (by rw [hq]; exact List.mem_append_left _ hw)).1
    by_cases ht : list.getD Q.length 0 < 128
    · exact key c v (by omega) i.mem (hb.torn (by omega) hx ht)
    · refine key (c + 1) x (by omega) hm ?_
      have em : mixed ((restL D.lasts Q list).getD (2 + (c + 1) % 2) []) (pageB (c + 1) x) (list.getD Q.length 0) = pageB (c + 1) x := by
        have h1 := hb.other.1
        have h2 := pageB_length (s := c + 1) hx
        unfold mixed
        have : (min (max (list.getD Q.length 0) 0) 128).toNat = 128 := by omega
        rw [this, List.take_of_length_le (by omega), List.drop_of_length_le (by omega), List.append_nil]
      rw [em]
      exact hb.next (by omega) hx (by omega)
end Go.Proofs.Ytkeggnfffnodmaa
