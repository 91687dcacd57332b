/- Layer 10: what a vault does, and that nothing is lost, wherever the power goes (no program in sight). -/
import Derived.Test.Ytbmhphnidfpclaavc
set_option linter.unusedVariables false
set_option maxRecDepth 100000
namespace Go.Proofs.Ytbmhphnidfpclaa
open Go Go.Vc Go.Proofs
structure Vs where
  sec : Bool
  least : Nat
  gen : Nat
def Vs.next (s : Vs) : Vs := { s with gen := s.gen + 1 }
def Vs.swap (s : Vs) : Vs := ⟨!s.sec, s.gen, s.gen⟩
def encV (s : Vs) : List UInt8 := numB (if s.sec then 1 else 0) 1 ++ numB s.least 4 ++ numB s.gen 4
theorem encV_length (s : Vs) : (encV s).length = 9 := by simp [encV, numB_length]
def spN (n : Nat) : Nat := (n - 2) / 2
def fromN (n : Nat) (sec : Bool) : Nat := if sec then 2 + spN n else 2
theorem from_two (n : Nat) (sec : Bool) : 2 ≤ fromN n sec := by unfold fromN; split <;> omega
theorem from_fit {n : Nat} (hn : 2 ≤ n) (sec : Bool) : fromN n sec + spN n ≤ n := by unfold fromN spN; split <;> omega
theorem from_far {n : Nat} {sec : Bool} {i : Int} (h1 : (fromN n sec : Int) ≤ i) (h2 : i < ((fromN n sec + spN n : Nat) : Int)) : i < (fromN n (!sec) : Int) ∨ ((fromN n (!sec) + spN n : Nat) : Int) ≤ i := by
  cases sec <;> simp only [fromN, Bool.not_true, Bool.not_false, if_true, Bool.false_eq_true, if_false] at * <;> omega
/-- A vault that is open. -/
structure VT where
  s : Vs
  ov : Bool
  L : Lg
  D : Dev
def saveT (V : VT) (s' : Vs) : Int × VT := ((saveD V.D 0 (encV s')).1.2, ⟨if (saveD V.D 0 (encV s')).1.2 = 0 then s' else V.s, V.ov || (saveD V.D 0 (encV s')).1.2 == 6, V.L, (saveD V.D 0 (encV s')).2⟩)
def appendT (V : VT) (b : List UInt8) : Int × VT := if V.ov then (6, V) else ((appendD V.L V.D b).1, ⟨V.s, V.ov || (appendD V.L V.D b).1 == 6, (appendD V.L V.D b).2.1, (appendD V.L V.D b).2.2⟩)
def flushT (V : VT) : Int × VT := if V.ov then (6, V) else ((flushL V.L V.D).1, ⟨V.s, V.ov || (flushL V.L V.D).1 == 6, (flushL V.L V.D).2.1, (flushL V.L V.D).2.2⟩)
def fillD (L : Lg) (D : Dev) : List (List UInt8) → Int × Lg × Dev
  | [] => flushL L D
  | b :: rs => if (appendD L D b).1 ≠ 0 then appendD L D b else fillD (appendD L D b).2.1 (appendD L D b).2.2 rs
def openL (n d : Nat) (s : Vs) (D : Dev) : Lg := ⟨d, fromN n s.sec, spN n, s.gen, (scanD D (fromN n s.sec) (spN n) s.least).2, false⟩
def fitsV (rs : List (List UInt8)) (sp gen : Nat) : Int := if rs.any (fun b => decide (6000 < b.length)) then 3 else if sp < partsS rs then 5 else if 4294967294 ≤ gen then 5 else 0
def replace2 (V : VT) (L : Lg) (s' : Vs) : Int × VT := if (saveT V s').1 ≠ 0 then saveT V s' else (0, ⟨(saveT V s').2.s, (saveT V s').2.ov, L, (saveT V s').2.D⟩)
def replace1 (n : Nat) (V : VT) (rs : List (List UInt8)) : Int × VT :=
  if (fillD (openL n V.L.d V.s.swap V.D) V.D rs).1 ≠ 0 then ((fillD (openL n V.L.d V.s.swap V.D) V.D rs).1, ⟨V.s, V.ov || (fillD (openL n V.L.d V.s.swap V.D) V.D rs).1 == 6, V.L, (fillD (openL n V.L.d V.s.swap V.D) V.D rs).2.2⟩)
  else replace2 ⟨V.s, V.ov, V.L, (fillD (openL n V.L.d V.s.swap V.D) V.D rs).2.2⟩ (fillD (openL n V.L.d V.s.swap V.D) V.D rs).2.1 V.s.swap
def replaceT (n : Nat) (V : VT) (rs : List (List UInt8)) : Int × VT :=
  if V.ov then (6, V) else if fitsV rs (spN n) V.s.gen ≠ 0 then (fitsV rs (spN n) V.s.gen, V)
  else if (saveT V V.s.next).1 ≠ 0 then saveT V V.s.next else replace1 n (saveT V V.s.next).2 rs

/- ### What is kept by writes -/
theorem putA_keep {L : Lg} {bs : List UInt8} (P : Dev → Prop) (hp : ∀ (D : Dev) (i : Int) xs, (L.start : Int) ≤ i → i < ((L.start + L.count : Nat) : Int) → P D → P (writeD D i xs).2) : ∀ (k i : Nat) (D : Dev), L.next + i + k ≤ L.count → P D → P (putA L bs k i D).2
  | 0, _, D, _, h => h
  | k + 1, i, D, hl, h => by
    have h1 := hp D ((L.start + L.next + i : Nat) : Int) (pageA L bs i) (by omega) (by omega) h
    rw [putA_succ]
    split
    · exact h1
    · exact putA_keep P hp k (i + 1) _ (by omega) h1
theorem appendD_keep {L : Lg} {bs : List UInt8} (P : Dev → Prop) (hp : ∀ (D : Dev) (i : Int) xs, (L.start : Int) ≤ i → i < ((L.start + L.count : Nat) : Int) → P D → P (writeD D i xs).2) {D : Dev} (h : P D) : P (appendD L D bs).2.2 := by
  unfold appendD
  split
  · exact h
  · split
    · exact h
    · split
      · exact h
      · split <;> exact putA_keep P hp _ _ _ (by omega) h
section
variable {D : Dev} {L : Lg} {n least G s f c : Nat} {B W : List Page} {x R : List (List UInt8)} {v : List UInt8} {pd : Option (List UInt8)}
theorem Slt.flush' (sl : Slt D n c v pd) : Slt (flushD D).2 n c v pd := by
  cases hd : D.down
  · have : pd = none := by
      cases h : pd with
      | none => rfl
      | some y => have := sl.pdd (by rw [h]; rfl); rw [hd] at this; cases this
    subst this
    exact sl.flush
  · have e : flushD D = (6, D) := by rw [flushD, if_pos hd]
    rw [e]; exact sl
theorem save_down (hd : D.down = true) {y : List UInt8} (hy : y.length ≤ 110) : saveD D 0 y = ((0, 6), D) := by
  have e : loadD D 0 = ((0, []), 6) := by
    have : readD D 0 = ([], 6) := by rw [readD, reach_down hd]; rfl
    rw [loadD, this]; rfl
  rw [saveD, if_neg (by omega), e]; rfl
theorem Ep.save (e : Ep D L n least G B W s f x R) (sl : Slt D n c v none) (hd : D.down = false) (hc : c + 2 < 18446744073709551616) {y : List UInt8} (hy : y.length ≤ 110) (h2 : 2 ≤ L.start) (hu : L.over = false) :
    Ep (saveD D 0 y).2 L n least G B W s (if (saveD D 0 y).1.2 = 0 then W.length else f) x R :=
  ⟨core_save sl hd hc hy e.core h2, e.lwf, e.len, e.base, e.tame, e.gen, e.least1, e.leastg, e.small, e.pages, fun h => by rw [hu] at h; cases h⟩
theorem Ep.up (e : Ep D L n least G B W s f x R) (hd : D.down = false) : L.over = false := by
  cases h : L.over
  · rfl
  · have := e.over h; rw [hd] at this; cases this
theorem Ep.five (e : Ep D L n least G B W s f x R) {b : List UInt8} (hb : b.length ≤ 6000) (h : (appendD L D b).1 = 5) : L.count < L.next + partsN b.length := by
  apply Classical.byContradiction
  intro hno
  unfold appendD at h
  cases hov : L.over
  rotate_left
  · rw [hov, if_pos rfl] at h; cases h
  rw [hov, if_neg (show ¬false = true by simp), if_neg (by omega), if_neg hno] at h
  obtain ⟨part, hW, hrest, hno'⟩ := e.pages
  obtain ⟨hp, hn⟩ := hno' hov
  subst hp
  rw [List.append_nil] at hW
  have hWl : W.length = partsS R := by rw [hW, recsP_length]
  rcases put_ep (L := L) (n := n) (s := s) (f := f) (B := B) (W0 := W) b (by omega) (by omega) (partsN b.length) 0 D (by omega) (by rw [recQ, List.append_nil]; exact e.core) with ⟨h0, c⟩ | ⟨h6, hd, i, hi, c⟩
  · rw [if_neg (by simpa using h0)] at h; cases h
  · rw [if_pos (by rw [h6]; omega)] at h
    rw [h6] at h; cases h
end
/-- Pages of an area that nothing was written to since. -/
theorem core_nil {D : Dev} {n start count : Nat} (wf : D.Wf n) (hr : start + count ≤ n) (hq : D.queue = []) : Core D n start count 0 0 (reg D start count) [] := by
  have hs : D.seen = D.lasts := by rw [Dev.seen, hq]; rfl
  refine ⟨wf, hr, Nat.le_refl _, by simp, fun j hj => ?_, fun j hj => ?_⟩
  · rw [if_neg (by omega), reg, hs, List.getD_eq_getElem?_getD, List.getD_eq_getElem?_getD, List.getElem?_take, if_pos hj, List.getElem?_drop]
  · rw [if_neg (by simp only [List.length_nil]; omega), hq]; rfl
theorem save_reg {D : Dev} {n c start count : Nat} {v y : List UInt8} (sl : Slt D n c v none) (hd : D.down = false) (hq : D.queue = []) (hc : c + 2 < 18446744073709551616) (hy : y.length ≤ 110) (h2 : 2 ≤ start) (hr : start + count ≤ n) :
    reg (saveD D 0 y).2 start count = reg D start count := by
  have h := core_save sl hd hc hy (core_nil sl.wf hr hq) h2
  have e : (if (saveD D 0 y).1.2 = 0 then ([] : List Page).length else 0) = 0 := by split <;> rfl
  rw [e] at h
  exact h.regNil (reg_length sl.wf hr)
/-- An area of a vault between two openings; q of its new records are sure to last; no page has a generation above g. -/
structure Ar (D : Dev) (n : Nat) (L : Lg) (least : Nat) (x R : List (List UInt8)) (q : Nat) (sec : Bool) (g : Nat) : Prop where
  ep : ∃ G B W s f, Ep D L n least G B W s f x R ∧ GW L G W g ∧ partsS (R.take q) ≤ f
  le : q ≤ R.length
  start : L.start = fromN n sec
  count : L.count = spN n
section
variable {D : Dev} {L : Lg} {n least q g c : Nat} {x R : List (List UInt8)} {sec : Bool} {v : List UInt8}
theorem Ar.mono (a : Ar D n L least x R q sec g) {g' : Nat} (h : g ≤ g') : Ar D n L least x R q sec g' := by
  obtain ⟨⟨G, B, W, s, f, e, gw, hf⟩, h1, h2, h3⟩ := a
  exact ⟨⟨G, B, W, s, f, e, ⟨gw.1, by have := gw.2.1; omega, gw.2.2.imp id fun hh => ⟨hh.1, by omega⟩⟩, hf⟩, h1, h2, h3⟩
theorem Ar.wf (a : Ar D n L least x R q sec g) : D.Wf n := by
  obtain ⟨⟨G, B, W, s, f, e, gw, hf⟩, h1, h2, h3⟩ := a
  exact e.core.wf
theorem Ar.lwf (a : Ar D n L least x R q sec g) : L.Wf n := by
  obtain ⟨⟨G, B, W, s, f, e, gw, hf⟩, h1, h2, h3⟩ := a
  exact e.lwf
theorem Ar.fuse (a : Ar D n L least x R q sec g) {k : Int} (hk : k ≤ 9223372036854775807) : Ar (fuseD D k) n L least x R q sec g := by
  obtain ⟨⟨G, B, W, s, f, e, gw, hf⟩, h1, h2, h3⟩ := a
  exact ⟨⟨G, B, W, s, f, e.fuse hk, gw, hf⟩, h1, h2, h3⟩
theorem Ar.other (a : Ar D n L least x R q (!sec) g) {i : Int} {xs : List UInt8} (hi1 : (fromN n sec : Int) ≤ i) (hi2 : i < ((fromN n sec + spN n : Nat) : Int)) : Ar (writeD D i xs).2 n L least x R q (!sec) g := by
  obtain ⟨⟨G, B, W, s, f, e, gw, hf⟩, h1, h2, h3⟩ := a
  exact ⟨⟨G, B, W, s, f, e.other (by rw [h2, h3]; exact from_far hi1 hi2), gw, hf⟩, h1, h2, h3⟩
theorem Ar.flushed (a : Ar D n L least x R q sec g) : Ar (flushD D).2 n L least x R q sec g := by
  obtain ⟨⟨G, B, W, s, f, e, gw, hf⟩, h1, h2, h3⟩ := a
  refine ⟨⟨G, B, W, s, _, e.flushed, gw, ?_⟩, h1, h2, h3⟩
  have := e.core.fl
  split <;> omega
theorem Ar.save (a : Ar D n L least x R q sec g) (sl : Slt D n c v none) (hd : D.down = false) (hc : c + 2 < 18446744073709551616) {y : List UInt8} (hy : y.length ≤ 110) : Ar (saveD D 0 y).2 n L least x R q sec g := by
  obtain ⟨⟨G, B, W, s, f, e, gw, hf⟩, h1, h2, h3⟩ := a
  refine ⟨⟨G, B, W, s, _, e.save sl hd hc hy (by rw [h2]; exact from_two _ _) (e.up hd), gw, ?_⟩, h1, h2, h3⟩
  have := e.core.fl
  split <;> omega
theorem Ar.append (a : Ar D n L least x R q sec g) {b : List UInt8} (hb : b.length ≤ 6000) (hg : L.gen < 256) (hgg : L.gen ≤ g) :
    ((appendD L D b).1 = 5 ∧ (appendD L D b).2 = (L, D) ∧ L.count < L.next + partsN b.length) ∨
    ((appendD L D b).1 = 0 ∧ (appendD L D b).2.1.over = false ∧ Ar (appendD L D b).2.2 n (appendD L D b).2.1 least x (R ++ [b]) q sec g) ∨
    ((appendD L D b).1 = 6 ∧ (appendD L D b).2.2.down = true ∧ Ar (appendD L D b).2.2 n (appendD L D b).2.1 least x R q sec g) := by
  obtain ⟨⟨G, B, W, s, f, e, gw, hf⟩, h1, h2, h3⟩ := a
  obtain ⟨l1, l2, l3, l4, l5⟩ := appendD_lwf (D := D) e.lwf b
  rcases e.append hb with ⟨h5, hs⟩ | ⟨h0, ho, ho', W', e'⟩ | ⟨h6, ho, W', e'⟩
  · exact .inl ⟨h5, hs, e.five hb h5⟩
  · exact .inr (.inl ⟨h0, ho', ⟨G, B, W', s, f, e', ⟨gw.1, gw.2.1, .inr ⟨by omega, by omega⟩⟩, by rw [List.take_append_of_le_length h1]; exact hf⟩, by rw [List.length_append]; omega, by rw [l3, h2], by rw [l4, h3]⟩)
  · exact .inr (.inr ⟨h6, e'.over ho, ⟨G, B, W', s, f, e', ⟨gw.1, gw.2.1, .inr ⟨by omega, by omega⟩⟩, hf⟩, h1, by rw [l3, h2], by rw [l4, h3]⟩)
theorem Ar.flush (a : Ar D n L least x R q sec g) :
    ((flushL L D).1 = 0 ∧ (flushL L D).2.1 = L ∧ (flushL L D).2.2.down = false ∧ (flushL L D).2.2.queue = [] ∧ Ar (flushL L D).2.2 n L least x R R.length sec g) ∨
    ((flushL L D).1 = 6 ∧ (flushL L D).2.2.down = true ∧ Ar (flushL L D).2.2 n (flushL L D).2.1 least x R q sec g) := by
  obtain ⟨⟨G, B, W, s, f, e, gw, hf⟩, h1, h2, h3⟩ := a
  obtain ⟨l1, l2, l3, l4, l5⟩ := flushL_lwf (D := D) e.lwf
  rcases e.flush with ⟨h0, ho, hl, e'⟩ | ⟨h6, ho, e'⟩
  · obtain ⟨part, hW, _⟩ := e.pages
    have hdn : (flushL L D).2.2.down = false ∧ (flushL L D).2.2.queue = [] := by
      unfold flushL at h0 ⊢
      rw [ho, if_neg (by simp)] at h0 ⊢
      dsimp only at h0 ⊢
      unfold flushD at h0 ⊢
      split at h0
      · cases h0
      · split at h0
        · cases h0
        · rename_i hd1 hd2
          rw [if_neg hd1, if_neg hd2]
          exact ⟨by simpa using hd2, rfl⟩
    refine .inl ⟨h0, hl, hdn.1, hdn.2, ⟨G, B, W, s, W.length, e', gw, ?_⟩, Nat.le_refl _, h2, h3⟩
    rw [List.take_length, hW, List.length_append, recsP_length]
    omega
  · exact .inr ⟨h6, e'.over ho, ⟨G, B, W, s, f, e', ⟨gw.1, gw.2.1, gw.2.2.imp id fun hh => by rw [l5]; exact hh⟩, hf⟩, h1, by rw [l3, h2], by rw [l4, h3]⟩
theorem Ar.tameNow (a : Ar D n L least x R q sec g) (hq : D.queue = []) (hs : spN n < 255) : ∃ G', G' < 256 ∧ G' ≤ g ∧ ∀ j, j < spN n → Tame G' j (D.lasts.getD (fromN n sec + j) []) := by
  obtain ⟨⟨G, B, W, s, f, e, gw, hf⟩, h1, h2, h3⟩ := a
  have := e.tameNow hq gw (by omega)
  rw [h2, h3] at this
  exact this
theorem Ar.crash (a : Ar D n L least x R q sec g) (hs : spN n < 255) (list : List Int) :
    ∃ m, m ≤ R.length ∧ q ≤ m ∧ (scanD (restartD D list) (fromN n sec) (spN n) least).1 = x ++ R.take m ∧
      ∃ G', G' < 256 ∧ G' ≤ g ∧ ∀ j, j < spN n → Tame G' j ((restartD D list).lasts.getD (fromN n sec + j) []) := by
  obtain ⟨⟨G, B, W, s, f, e, gw, hf⟩, h1, h2, h3⟩ := a
  obtain ⟨m, m1, m2, m3, m4, m5⟩ := e.crash2 gw (by omega) list
  rw [h2, h3] at m2 m5
  exact ⟨m, m1, m3 q h1 hf, m2, m5⟩
theorem ar_open {d gen G : Nat} (wf : D.Wf n) (hn : 2 ≤ n) (hg : gen < 4294967296) (hq : D.queue = []) (tame : ∀ j, j < spN n → Tame G j (D.lasts.getD (fromN n sec + j) [])) (hG : G < gen) (hG2 : G < 256) (hG3 : G ≤ g) (h1 : 1 ≤ least) (h2 : least ≤ gen) :
    Ar D n ⟨d, fromN n sec, spN n, gen, (scanD D (fromN n sec) (spN n) least).2, false⟩ least (scanD D (fromN n sec) (spN n) least).1 [] 0 sec g :=
  ⟨⟨G, _, [], _, 0, ep_open wf (from_fit hn sec) hg hq tame hG h1 h2, ⟨hG2, hG3, .inl rfl⟩, by simp [partsS]⟩, Nat.le_refl _, rfl, rfl⟩
theorem scan_tame {start count G : Nat} (wf : D.Wf n) (hr : start + count ≤ n) (hq : D.queue = []) (hc : count < 255) (hG2 : G < 256) (tame : ∀ j, j < count → Tame G j (D.lasts.getD (start + j) [])) (hG : G < least) : scanD D start count least = ([], 0) := by
  have hs : D.seen = D.lasts := by rw [Dev.seen, hq]; rfl
  have hl := reg_length wf hr
  rw [scanD_reg]
  refine scan_none fun p hp place l g' k b hd => ?_
  obtain ⟨j, hj, rfl⟩ := List.mem_iff_getElem.1 hp
  have e : (reg D start count)[j] = D.lasts.getD (start + j) [] := by
    have h1 : (reg D start count).getD j [] = D.lasts.getD (start + j) [] := by rw [reg, hs, List.getD_eq_getElem?_getD, List.getD_eq_getElem?_getD, List.getElem?_take, if_pos (by omega), List.getElem?_drop]
    rw [← h1, List.getD_eq_getElem?_getD, List.getElem?_eq_getElem hj]; rfl
  rw [e] at hd
  have := (tame j (by omega)).gen hG2 (by omega) hd
  omega
end
end Go.Proofs.Ytbmhphnidfpclaa
