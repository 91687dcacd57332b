/- Layer 10: a slot at the pages 0 and 1, wherever the power goes (no program in sight). -/
import Derived.Test.Ytbmhphnidfpclaava
set_option linter.unusedVariables false
set_option maxRecDepth 100000
namespace Go.Proofs.Ytbmhphnidfpclaa
open Go Go.Vc Go.Proofs
/-- A slot tells c, v; pd waits for the other page. -/
structure Slt (D : Dev) (n c : Nat) (v : List UInt8) (pd : Option (List UInt8)) : Prop where
  wf : D.Wf n
  two : 2 ≤ n
  len : v.length ≤ 110
  nil : c = 0 → v = [] ∧ D.lasts.getD 0 [] = zeroP
  cur : 0 < c → D.lasts.getD (c % 2) [] = pageB c v
  oth : Torn (D.lasts.getD ((c + 1) % 2) []) (c - 1) (c + 1)
  qcur : qAt D.queue (c % 2) = []
  qoth : qAt D.queue ((c + 1) % 2) = (match pd with | none => [] | some x => [pageB (c + 1) x])
  pdl : ∀ x, pd = some x → x.length ≤ 110
  pdd : pd.isSome = true → D.down = true
section
variable {D : Dev} {n c : Nat} {v : List UInt8} {pd : Option (List UInt8)}
theorem Slt.same {D' : Dev} (s : Slt D n c v pd) (wf : D'.Wf n) (hl : ∀ i, i < 2 → D'.lasts.getD i [] = D.lasts.getD i []) (hq : ∀ i, i < 2 → qAt D'.queue i = qAt D.queue i) (hd : D.down = true → D'.down = true) : Slt D' n c v pd :=
  ⟨wf, s.two, s.len, fun h => by rw [hl 0 (by omega)]; exact s.nil h, fun h => by rw [hl _ (by omega)]; exact s.cur h, by rw [hl _ (by omega)]; exact s.oth, by rw [hq _ (by omega)]; exact s.qcur, by rw [hq _ (by omega)]; exact s.qoth, s.pdl, fun h => hd (s.pdd h)⟩
theorem opD_down (h : D.down = true) : (opD D).down = true := by
  unfold opD
  split
  · rfl
  · split <;> exact h
theorem Slt.op (s : Slt D n c v pd) : Slt (opD D) n c v pd := s.same (opD_wf s.wf) (fun _ _ => by rw [opD_lasts]) (fun _ _ => by rw [opD_queue]) opD_down
theorem Slt.fuse (s : Slt D n c v pd) {k : Int} (hk : k ≤ 9223372036854775807) : Slt (fuseD D k) n c v pd := s.same (fuseD_wf s.wf hk) (fun _ _ => rfl) (fun _ _ => rfl) id
theorem Slt.other (s : Slt D n c v pd) {i : Int} {xs : List UInt8} (hi : 2 ≤ i) : Slt (writeD D i xs).2 n c v pd := by
  have wf := writeD_wf s.wf i xs
  unfold writeD at wf ⊢
  split
  · exact s
  · rename_i hr
    split
    · exact s
    · rename_i hx
      rw [if_neg hr, if_neg hx] at wf
      obtain ⟨hdn, h0, h1⟩ := reach_in s.wf (by simpa using hr)
      split
      · exact s.op
      · rename_i hd
        rw [if_neg hd] at wf
        refine s.same wf (fun j _ => by show (opD D).lasts.getD _ _ = _; rw [opD_lasts]) (fun j hj => ?_) fun h => by rw [hdn] at h; cases h
        show qAt (D.queue ++ [(i.toNat, xs)]) j = _
        rw [qAt_snoc, if_neg (by omega), List.append_nil]
theorem slt_len {P : List UInt8} {m k : Nat} (h : Torn P m k) : P.length = 128 := h.1
theorem Slt.slot (s : Slt D n c v none) (hc : c + 2 < 18446744073709551616) : Slot D 0 c v := by
  have h0 : pg D (c % 2) = D.lasts.getD (c % 2) [] := seen_free _ _ s.qcur
  have h1 : pg D ((c + 1) % 2) = D.lasts.getD ((c + 1) % 2) [] := seen_free _ _ s.qoth
  refine ⟨fun h => ?_, fun h => ?_, fun t x hd => ?_⟩
  · subst h
    refine ⟨(s.nil rfl).1, fun t x hd => ?_⟩
    have h0 : pg D 0 = D.lasts.getD 0 [] := h0
    rw [h0, (s.nil rfl).2] at hd
    rw [show zeroP = List.replicate 128 0 from rfl, decB_zero] at hd
    cases hd
  · rw [Nat.zero_add, h0, s.cur h]
    exact decB_page h (by omega) s.len
  · rw [Nat.zero_add, h1] at hd
    have := slt_dec s.oth (by omega) (by omega) hd
    by_cases h : c = 0
    · subst h; right; omega
    · left; omega
theorem Slt.load (s : Slt D n c v none) (hd : D.down = false) (hc : c + 2 < 18446744073709551616) : loadD D 0 = ((c, v), 0) :=
  load_slot (a := 0) ⟨s.wf, hd⟩ (by have := s.two; omega) (s.slot hc)
theorem Slt.flush (s : Slt D n c v none) : Slt (flushD D).2 n c v none := by
  have wf := flushD_wf s.wf
  unfold flushD at wf ⊢
  split
  · exact s
  · rename_i hd
    split
    · exact s.op
    · rename_i ho
      rw [if_neg hd, if_neg ho] at wf
      refine s.same wf (fun i hi => ?_) (fun i hi => ?_) fun h => absurd h hd
      · show D.seen.getD i [] = _
        refine seen_free _ _ ?_
        have : i = c % 2 ∨ i = (c + 1) % 2 := by omega
        rcases this with rfl | rfl
        · exact s.qcur
        · exact s.qoth
      · show qAt [] i = _
        have : i = c % 2 ∨ i = (c + 1) % 2 := by omega
        rcases this with rfl | rfl
        · rw [s.qcur]; rfl
        · rw [s.qoth]; rfl
/-- The device behind the write of a value, and behind its flush. -/
def saveW (D : Dev) (c : Nat) (x : List UInt8) : Dev := (writeD D (((c + 1) % 2 : Nat) : Int) (pageB (c + 1) x)).2
theorem Slt.saveD_eq (s : Slt D n c v none) (hd : D.down = false) (hc : c + 2 < 18446744073709551616) {x : List UInt8} (hx : x.length ≤ 110) :
    saveD D 0 x = if (writeD D (((c + 1) % 2 : Nat) : Int) (pageB (c + 1) x)).1 ≠ 0 then ((0, (writeD D (((c + 1) % 2 : Nat) : Int) (pageB (c + 1) x)).1), saveW D c x)
      else if (flushD (saveW D c x)).1 ≠ 0 then ((0, (flushD (saveW D c x)).1), (flushD (saveW D c x)).2) else ((c + 1, 0), (flushD (saveW D c x)).2) := by
  rw [saveD, s.load hd hc, if_neg (by omega), if_neg (by simp)]
  dsimp only
  rw [if_neg (by omega), Int.zero_add]
  rfl
/-- A value is saved, or the power is gone; then it may wait. -/
theorem Slt.save (s : Slt D n c v none) (hd : D.down = false) (hc : c + 2 < 18446744073709551616) {x : List UInt8} (hx : x.length ≤ 110) :
    ((saveD D 0 x).1.2 = 0 ∧ (saveD D 0 x).2.down = false ∧ (saveD D 0 x).2.queue = [] ∧ Slt (saveD D 0 x).2 n (c + 1) x none) ∨
    ((saveD D 0 x).1.2 = 6 ∧ (saveD D 0 x).2.down = true ∧ ∃ pd, (pd = none ∨ pd = some x) ∧ Slt (saveD D 0 x).2 n c v pd) := by
  have h2 := s.two
  have hi : (c + 1) % 2 < n := by omega
  have hpl := pageB_length (s := c + 1) hx
  rw [s.saveD_eq hd hc hx]
  have wfw := writeD_wf s.wf (((c + 1) % 2 : Nat) : Int) (pageB (c + 1) x)
  cases ho : (opD D).down
  rotate_left
  · have hw : writeD D (((c + 1) % 2 : Nat) : Int) (pageB (c + 1) x) = (6, opD D) := by rw [writeD, if_neg (by simpa using reach_zero s.wf hd hi), if_neg (by simp [hpl]), if_pos ho]
    unfold saveW
    rw [hw, if_pos (by simp)]
    exact .inr ⟨rfl, ho, none, .inl rfl, s.op⟩
  have hw := writeD_zero s.wf hd hi hpl ho
  unfold saveW
  rw [hw] at wfw ⊢
  dsimp only at wfw ⊢
  rw [if_neg (by simp)]
  generalize hE : ({ opD D with queue := D.queue ++ [((c + 1) % 2, pageB (c + 1) x)] } : Dev) = E at *
  have el : E.lasts = D.lasts := by rw [← hE]; exact opD_lasts D
  have eq : E.queue = D.queue ++ [((c + 1) % 2, pageB (c + 1) x)] := by rw [← hE]
  have ed : E.down = false := by rw [← hE]; exact ho
  have q0 : qAt E.queue (c % 2) = [] := by rw [eq, qAt_snoc, if_neg (by omega), s.qcur]; rfl
  have q1 : qAt E.queue ((c + 1) % 2) = [pageB (c + 1) x] := by rw [eq, qAt_snoc, if_pos rfl, s.qoth]; rfl
  cases ho2 : (opD E).down
  rotate_left
  · have hfl : flushD E = (6, opD E) := by rw [flushD, if_neg (by simp [ed]), if_pos ho2]
    rw [hfl, if_pos (by simp)]
    refine .inr ⟨rfl, ho2, some x, .inr rfl, opD_wf wfw, h2, s.len, ?_, ?_, ?_, ?_, ?_, ?_, fun _ => ho2⟩
    · rw [opD_lasts, el]; exact s.nil
    · rw [opD_lasts, el]; exact s.cur
    · rw [opD_lasts, el]; exact s.oth
    · rw [opD_queue]; exact q0
    · rw [opD_queue]; exact q1
    · intro y hy; cases hy; exact hx
  have hfl := flushD_zero ed ho2
  have wfl := flushD_wf wfw
  rw [hfl] at wfl ⊢
  rw [if_neg (by simp)]
  have hlen := wfw.len
  refine .inl ⟨rfl, ho2, rfl, wfl, h2, hx, fun h => by omega, fun _ => ?_, ?_, rfl, rfl, fun y hy => (by cases hy), fun h => (by cases h)⟩
  · show E.seen.getD _ [] = _
    exact seen_wait _ _ (by omega) q1
  · show Torn (E.seen.getD ((c + 1 + 1) % 2) []) _ _
    have e2 : (c + 1 + 1) % 2 = c % 2 := by omega
    have e3 : E.seen.getD (c % 2) [] = D.lasts.getD (c % 2) [] := by rw [← el]; exact seen_free _ _ q0
    rw [e2, e3]
    by_cases h0 : c = 0
    · subst h0
      rw [(show D.lasts.getD (0 % 2) [] = zeroP from (s.nil rfl).2)]
      exact slt_zero
    · rw [s.cur (by omega)]
      exact slt_page (by omega) s.len
/-- Behind a restart a slot tells what it told, or what waited. -/
theorem Slt.restart (s : Slt D n c v pd) (hc : c + 2 < 18446744073709551616) (list : List Int) :
    Slt (restartD D list) n c v none ∨ ∃ x, pd = some x ∧ Slt (restartD D list) n (c + 1) x none := by
  have h2 := s.two
  have wr := restartD_wf s.wf list
  have hlen := s.wf.len
  have e0 : (restartD D list).lasts.getD (c % 2) [] = D.lasts.getD (c % 2) [] := rest_free _ _ _ s.qcur
  have hno : Torn ((restartD D list).lasts.getD ((c + 1) % 2) []) (c - 1) (c + 1) → Slt (restartD D list) n c v none := fun ht =>
    ⟨wr, h2, s.len, fun h => by subst h; exact ⟨(s.nil rfl).1, by have e0 : (restartD D list).lasts.getD 0 [] = D.lasts.getD 0 [] := e0; rw [e0]; exact (s.nil rfl).2⟩, fun h => by rw [e0]; exact s.cur h, ht, rfl, rfl, fun y hy => (by cases hy), fun h => (by cases h)⟩
  have hq := s.qoth
  have hd := s.pdl
  cases pd with
  | none =>
    refine .inl (hno ?_)
    have e1 : (restartD D list).lasts.getD ((c + 1) % 2) [] = D.lasts.getD ((c + 1) % 2) [] := rest_free _ _ _ hq
    rw [e1]; exact s.oth
  | some x =>
    have hx := hd x rfl
    obtain ⟨t, e1⟩ := rest_wait D.queue D.lasts list (by omega) hq
    have e1 : (restartD D list).lasts.getD ((c + 1) % 2) [] = mixed (D.lasts.getD ((c + 1) % 2) []) (pageB (c + 1) x) t := e1
    by_cases ht : t < 128
    · refine .inl (hno ?_)
      rw [e1]
      exact slt_mixed s.oth hx ht
    · refine .inr ⟨x, rfl, wr, h2, hx, fun h => by omega, fun _ => ?_, ?_, rfl, rfl, fun y hy => (by cases hy), fun h => (by cases h)⟩
      · rw [e1]
        unfold mixed
        have h1 := s.oth.1
        have h3 := pageB_length (s := c + 1) hx
        have : (min (max t 0) 128).toNat = 128 := by omega
        rw [this, List.take_of_length_le (by omega), List.drop_of_length_le (by omega), List.append_nil]
      · have e2 : (c + 1 + 1) % 2 = c % 2 := by omega
        rw [e2, e0]
        by_cases h0 : c = 0
        · subst h0
          rw [(show D.lasts.getD (0 % 2) [] = zeroP from (s.nil rfl).2)]
          exact slt_zero
        · rw [s.cur (by omega)]
          exact slt_page (by omega) s.len
end
theorem slt_new {n : Nat} (h2 : 2 ≤ n) (hn : n ≤ 4096) : Slt (newD n) n 0 [] none := by
  have h : ∀ i, i < 2 → (newD n).lasts.getD i [] = zeroP := fun i hi => by
    show (List.replicate n (List.replicate 128 0)).getD i [] = _
    rw [List.getD_eq_getElem?_getD, List.getElem?_replicate, if_pos (by omega)]; rfl
  exact ⟨newD_wf hn, h2, by simp, fun _ => ⟨rfl, h 0 (by omega)⟩, fun h => by omega, by rw [h _ (by omega)]; exact slt_zero, rfl, rfl, fun y hy => (by cases hy), fun h => (by cases h)⟩
/-- What a save does to a log's pages. -/
theorem core_save {D : Dev} {n c start count s f : Nat} {v x : List UInt8} {B W : List Page} (sl : Slt D n c v none) (hd : D.down = false) (hc : c + 2 < 18446744073709551616) (hx : x.length ≤ 110) (k : Core D n start count s f B W) (h2 : 2 ≤ start) :
    Core (saveD D 0 x).2 n start count s (if (saveD D 0 x).1.2 = 0 then W.length else f) B W := by
  rw [sl.saveD_eq hd hc hx]
  have hi : (((c + 1) % 2 : Nat) : Int) < start ∨ ((start + count : Nat) : Int) ≤ (((c + 1) % 2 : Nat) : Int) := .inl (by omega)
  have k1 : Core (saveW D c x) n start count s f B W := (k.other (xs := pageB (c + 1) x) hi).1
  split
  · rename_i h
    dsimp only
    first
      | exact k1
      | (rw [if_neg h]; exact k1)
  · rcases k1.flush with ⟨h0, _, _, k2⟩ | ⟨h6, _, k2⟩
    · rw [if_neg (by omega)]
      dsimp only
      rw [if_pos rfl]; exact k2
    · rw [if_pos (by omega)]
      dsimp only
      rw [if_neg (by omega)]; exact k2
end Go.Proofs.Ytbmhphnidfpclaa
