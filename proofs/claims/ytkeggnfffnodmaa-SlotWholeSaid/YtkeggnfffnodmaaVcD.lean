/- The calculus of XVcA is sound: slices, parts, what is put together, builtins. -/
import Derived.Test.YtkeggnfffnodmaaVcC
set_option linter.unusedVariables false
namespace Go.Vc

section
variable {P : Program} {w : World}

theorem part_sound {t : TypeId} {cs : Array Value} {off : Nat} {K : Value → Prop} (h : partVc P t cs off K) :
    ∃ v, (part t cs off).run P w = .ok v w ∧ K v := by
  unfold partVc at h
  split at h
  · rename_i hb
    obtain ⟨h1, i, hi⟩ := run_agg hb w
    exact ⟨_, by simp [part, h1, run_size hi], h⟩
  · rename_i hb
    obtain ⟨h1, i, hi⟩ := run_agg hb w
    obtain ⟨v, hv, hk⟩ := exTy_elim h
    exact ⟨v, by simp [part, h1, hv], hk⟩
  · exact h.elim

theorem getAt_eq {α : Type} : ∀ (l : List α) (n : Nat), getAt l n = l[n]?
  | [], n => by simp [getAt]
  | x :: r, 0 => rfl
  | x :: r, n + 1 => by simp [getAt, getAt_eq r n]

theorem splice_list (off : Nat) : ∀ (l : List Value) (k : Nat) (acc : List Value), off + k + l.length ≤ acc.length →
    (l.zipIdx k).foldl (fun acc (x : Value × Nat) => acc.set (off + x.2) x.1) acc = acc.take (off + k) ++ (l ++ acc.drop (off + k + l.length))
  | [], k, acc, _ => by simp
  | v :: l, k, acc, h => by
    simp only [List.length_cons] at h
    simp only [List.zipIdx_cons, List.foldl_cons]
    rw [splice_list off l (k + 1) _ (by simp; omega)]
    have h1 : (acc.set (off + k) v).take (off + (k + 1)) = acc.take (off + k) ++ [v] := by
      rw [show off + (k + 1) = off + k + 1 from by omega, List.take_succ_eq_append_getElem (by simp; omega), List.take_set, List.set_eq_of_length_le (by simp; omega)]
      simp
    have h2 : (acc.set (off + k) v).drop (off + (k + 1) + l.length) = acc.drop (off + k + (l.length + 1)) := by
      rw [List.drop_set_of_lt (by omega)]
      congr 1
      omega
    rw [h1, h2]
    simp

theorem splice_fill (cells cs : Array Value) (off : Nat) (hfit : off + cs.size ≤ cells.size) :
    cs.zipIdx.foldl (fun acc (x : Value × Nat) => acc.setIfInBounds (off + x.2) x.1) cells = cells.extract 0 off ++ (cs ++ cells.extract (off + cs.size) cells.size) := by
  have hom : ∀ (l : List (Value × Nat)) (acc : Array Value), (l.foldl (fun acc (x : Value × Nat) => acc.setIfInBounds (off + x.2) x.1) acc).toList = l.foldl (fun acc (x : Value × Nat) => acc.set (off + x.2) x.1) acc.toList := by
    intro l
    induction l with
    | nil => intro acc; rfl
    | cons x l ih => intro acc; simp only [List.foldl_cons]; rw [ih]; simp
  apply Array.toList_inj.1
  rw [← Array.foldl_toList, Array.toList_zipIdx, hom]
  rw [splice_list off cs.toList 0 cells.toList (by simpa using hfit)]
  simp [Array.toList_extract, List.extract]
  exact (List.take_of_length_le (by simp)).symm

theorem setAt_eq : ∀ (l : List (List Value)) (n : Nat) (v : List Value), setAt l n v = l.set n v
  | [], n, v => by simp [setAt]
  | x :: r, 0, v => rfl
  | x :: r, n + 1, v => by simp [setAt, setAt_eq r n v]

theorem chunk_flat : ∀ (ns : List Nat) (l : List Value), ns.sum = l.length → flat (chunk ns l) = l
  | [], l, h => by
    have : l = [] := List.eq_nil_of_length_eq_zero (by simpa using h.symm)
    subst this; rfl
  | n :: ns, l, h => by
    simp only [List.sum_cons] at h
    simp only [chunk, flat]
    rw [chunk_flat ns (l.drop n) (by simp; omega), List.take_append_drop]

theorem chunk_lengths : ∀ (ns : List Nat) (l : List Value), ns.sum = l.length → (chunk ns l).map List.length = ns
  | [], l, h => rfl
  | n :: ns, l, h => by
    simp only [List.sum_cons] at h
    simp only [chunk, List.map_cons, List.length_take]
    rw [chunk_lengths ns (l.drop n) (by simp; omega), Nat.min_eq_left (by omega)]

/-- Where part i lies, if the parts lie one behind the other. -/
theorem tiles_off : ∀ (pl : List (Nat × Nat)) (off i o s : Nat), tilesB off pl = true → getAt pl i = some (o, s) → o = off + ((pl.map (·.2)).take i).sum
  | [], off, i, o, s, _, h => by cases i <;> simp [getAt] at h
  | (o', s') :: r, off, 0, o, s, h, h' => by
    simp only [tilesB, Bool.and_eq_true] at h
    simp only [getAt, Option.some.injEq, Prod.mk.injEq] at h'
    have := Nat.eq_of_beq_eq_true h.1
    simp; omega
  | (o', s') :: r, off, i + 1, o, s, h, h' => by
    simp only [tilesB, Bool.and_eq_true] at h
    simp only [getAt] at h'
    have := tiles_off r (off + s') i o s h.2 h'
    simp; omega

theorem splice_flat : ∀ (ch : List (List Value)) (i : Nat) (new : List Value) (old : List Value), ch[i]? = some old → old.length = new.length →
    (flat ch).take ((ch.map List.length).take i).sum ++ (new ++ (flat ch).drop (((ch.map List.length).take i).sum + new.length)) = flat (ch.set i new)
  | [], i, new, old, h, _ => by simp at h
  | c :: ch, 0, new, old, h, hl => by
    simp only [List.getElem?_cons_zero, Option.some.injEq] at h
    subst h
    simp [flat, ← hl]
  | c :: ch, i + 1, new, old, h, hl => by
    simp only [List.getElem?_cons_succ] at h
    have := splice_flat ch i new old h hl
    simp only [flat, List.map_cons, List.take_succ_cons, List.sum_cons, List.set_cons_succ, ← this, List.take_append, List.drop_append]
    rw [List.take_of_length_le (by omega), List.drop_eq_nil_of_le (by omega)]
    simp [Nat.add_assoc]

theorem fill_sound {pl : List (Nat × Nat)} (ht : tilesB 0 pl = true) {place : Nat → Option (Nat × Nat)} (hplace : ∀ i x, getAt pl i = some x → place i = some x) : ∀ (ps : List (Nat × Value)) (ch : List (List Value)) (K : List (List Value) → Prop),
    ch.map List.length = pl.map (·.2) → fillVc pl ch ps K → ∃ ch', Instr.fill place (flat ch).toArray ps = some (flat ch').toArray ∧ K ch'
  | [], ch, K, _, h => ⟨ch, rfl, h⟩
  | (i, v) :: r, ch, K, hlen, h => by
    unfold fillVc at h
    unfold Instr.fill
    cases hpl : getAt pl i with
    | none => rw [hpl] at h; exact h.elim
    | some os =>
      obtain ⟨off, size⟩ := os
      rw [hpl] at h
      rw [hplace i _ hpl]
      simp only at h ⊢
      have hoff := tiles_off pl 0 i off size ht hpl
      rw [← hlen] at hoff
      simp only [Nat.zero_add] at hoff
      have hsz : (ch.map List.length)[i]? = some size := by
        rw [hlen, List.getElem?_map, ← getAt_eq, hpl]; rfl
      rw [List.getElem?_map] at hsz
      obtain ⟨old, hold, hol⟩ := Option.map_eq_some_iff.1 hsz
      have hbound : off + size ≤ (flat ch).length := by
        have hfl : ∀ (ch : List (List Value)), (flat ch).length = (ch.map List.length).sum := by
          intro ch; induction ch with
          | nil => rfl
          | cons c ch ih => simp [flat, ih]
        have hsum : ∀ (ns : List Nat) (i n : Nat), ns[i]? = some n → (ns.take i).sum + n ≤ ns.sum := by
          intro ns
          induction ns with
          | nil => intro i n h; simp at h
          | cons m ns ih => intro i n h; cases i with
            | zero => simp at h; subst h; simp
            | succ i => simp only [List.getElem?_cons_succ] at h; have := ih i n h; simp; omega
        rw [hfl, hoff]
        exact hsum _ i size (by rw [List.getElem?_map, hold]; simp [hol])
      have step : ∀ (cs : Array Value), cs.size = size → cs.zipIdx.foldl (fun acc (x : Value × Nat) => acc.setIfInBounds (off + x.2) x.1) (flat ch).toArray = (flat (setAt ch i cs.toList)).toArray := by
        intro cs hcs
        rw [splice_fill _ cs off (by simp; omega)]
        rw [setAt_eq, ← splice_flat ch i cs.toList old hold (by simp [hol, hcs])]
        rw [← hoff]
        apply Array.toList_inj.1
        simp [List.extract]
        exact List.take_of_length_le (by simp)
      have hlen' : ∀ (cs : Array Value), cs.size = size → (setAt ch i cs.toList).map List.length = pl.map (·.2) := by
        intro cs hcs
        rw [setAt_eq, ← hlen, List.map_set]
        apply List.ext_getElem?
        intro j
        rw [List.getElem?_set]
        split
        · rename_i hij; subst hij
          rw [List.getElem?_map, hold]
          have hlt : i < ch.length := by
            rcases Nat.lt_or_ge i ch.length with h' | h'
            · exact h'
            · rw [List.getElem?_eq_none h'] at hold; cases hold
          simp [hol, hcs, hlt]
        · rfl
      split at h
      · rename_i cs
        obtain ⟨hs, h⟩ := h
        have hc : (Value.agg cs).cells = cs := rfl
        have hf : (decide ((Value.agg cs).cells.size ≠ size) || decide (off + (Value.agg cs).cells.size > (flat ch).toArray.size)) = false := by
          rw [hc, hs]; simp; omega
        simp only [hf, Bool.false_eq_true, if_false]
        rw [hc, step cs hs]
        exact fill_sound ht hplace r _ K (hlen' cs hs) h
      · rename_i hna
        split at h
        · rename_i hb
          have hs := Nat.eq_of_beq_eq_true hb
          subst hs
          have hc : v.cells = #[v] := by cases v <;> first | rfl | exact (hna _ rfl).elim
          have hf : (decide (v.cells.size ≠ 1) || decide (off + v.cells.size > (flat ch).toArray.size)) = false := by
            rw [hc]; simp; omega
          simp only [hf, Bool.false_eq_true, if_false]
          rw [hc, step #[v] rfl]
          exact fill_sound ht hplace r _ K (hlen' #[v] rfl) h
        · exact h.elim

theorem parts_sound {pl : List (Nat × Nat)} {zero : List Value} {ps : List (Nat × Value)} {K : List Value → Prop} (h : partsVc pl zero ps K)
    {place : Nat → Option (Nat × Nat)} (hplace : ∀ i x, getAt pl i = some x → place i = some x) :
    ∃ l, Instr.fill place zero.toArray ps = some l.toArray ∧ K l := by
  unfold partsVc at h
  split at h
  · rename_i hb
    simp only [Bool.and_eq_true] at hb
    have hsum := Nat.eq_of_beq_eq_true hb.2
    obtain ⟨ch, hf, hk⟩ := fill_sound hb.1 hplace ps _ _ (chunk_lengths _ _ hsum) h
    rw [chunk_flat _ _ hsum] at hf
    exact ⟨_, hf, hk⟩
  · exact h.elim

theorem evens_getAt (size : Nat) : ∀ (n off i : Nat) (x : Nat × Nat), getAt (evens size n off) i = some x → x = (off + i * size, size)
  | 0, off, i, x, h => by cases i <;> simp [evens, getAt] at h
  | n + 1, off, 0, x, h => by simp [evens, getAt] at h; simp [h]
  | n + 1, off, i + 1, x, h => by
    simp only [evens, getAt] at h
    rw [evens_getAt size n (off + size) i x h]
    simp [Nat.succ_mul]; omega

end
end Go.Vc
