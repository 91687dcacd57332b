/- Layer 9: a log between two openings (no program in sight). -/
import Derived.Test.Ytgeoelahfljefaa9k
set_option linter.unusedVariables false
set_option maxRecDepth 100000
namespace Go.Proofs.Ytgeoelahfljefaa
open Go Go.Vc Go.Proofs
theorem recQ_snoc (g at_ : Nat) (b : List UInt8) (N : Nat) : ∀ k i, recQ g at_ b N (k + 1) i = recQ g at_ b N k i ++ [pageW g (at_ + (i + k) + 1) (kindN (i + k) N) (partB b (i + k))]
  | 0, i => by simp [recQ]
  | k + 1, i => by
    rw [recQ, recQ_snoc g at_ b N k (i + 1), recQ, List.cons_append, show i + 1 + k = i + (k + 1) by omega]
/-- A log since its opening: x are the records that were found then, R those that were appended since (on pages W, of which the first f last). -/
structure Ep (D : Dev) (L : Lg) (n least G : Nat) (B W : List Page) (s f : Nat) (x R : List (List UInt8)) : Prop where
  core : Core D n L.start L.count s f B W
  lwf : L.Wf n
  len : B.length = L.count
  base : scanL B 0 least 0 [] [] 0 = (x, s)
  tame : ∀ j, j < L.count → Tame G j (B.getD j [])
  gen : G < L.gen
  least1 : 1 ≤ least
  leastg : least ≤ L.gen
  small : ∀ b ∈ R, b.length ≤ 6000
  pages : ∃ part, W = recsP L.gen s R ++ part ∧ Rest9 L.gen (s + partsS R) part ∧ (L.over = false → part = [] ∧ L.next = s + partsS R)
  over : L.over = true → D.down = true
theorem scan_split : ∀ (ps : List Page) (at_ l bg : Nat) (rc : List UInt8) (recs : List (List UInt8)) (nx : Nat) (x : List (List UInt8)) (s : Nat), scanL ps at_ l bg rc recs nx = (x, s) →
    (s = nx ∧ x = recs) ∨ (at_ < s ∧ ∃ l', l ≤ l' ∧ (∃ p ∈ ps, ∃ place least k b, decW p place least = some (l', k, b)) ∧ ∀ rest, scanL (ps.take (s - at_) ++ rest) at_ l bg rc recs nx = scanL rest s l' 0 [] x s)
  | [], at_, l, bg, rc, recs, nx, x, s, h => by cases h; exact .inl ⟨rfl, rfl⟩
  | p :: ps, at_, l, bg, rc, recs, nx, x, s, h => by
    rw [scanL_cons] at h
    cases hd : decW p (at_ + 1) l with
    | none => rw [hd] at h; cases h; exact .inl ⟨rfl, rfl⟩
    | some y =>
      obtain ⟨g, k, b⟩ := y
      rw [hd] at h
      dsimp only at h
      have hlg := decW_least hd
      split at h
      · cases h; exact .inl ⟨rfl, rfl⟩
      · rename_i hc
        split at h
        · rename_i hk
          rcases scan_split ps (at_ + 1) g 0 [] (recs ++ [rc ++ b]) (at_ + 1) x s h with ⟨h1, h2⟩ | ⟨h1, l', h2, ⟨q, hq, hq'⟩, h3⟩
          · subst h1; subst h2
            refine .inr ⟨by omega, g, hlg, ⟨p, List.mem_cons_self .., _, _, _, _, hd⟩, fun rest => ?_⟩
            rw [show at_ + 1 - at_ = 1 by omega, List.take_succ_cons, List.take_zero, List.cons_append, List.nil_append, scanL_cons, hd]
            dsimp only
            rw [if_neg hc, if_pos hk]
          · refine .inr ⟨by omega, l', by omega, ⟨q, List.mem_cons_of_mem _ hq, hq'⟩, fun rest => ?_⟩
            rw [show s - at_ = (s - (at_ + 1)) + 1 by omega, List.take_succ_cons, List.cons_append, scanL_cons, hd]
            dsimp only
            rw [if_neg hc, if_pos hk]
            exact h3 rest
        · rename_i hk
          rcases scan_split ps (at_ + 1) g g (rc ++ b) recs nx x s h with h1 | ⟨h1, l', h2, ⟨q, hq, hq'⟩, h3⟩
          · exact .inl h1
          · refine .inr ⟨by omega, l', by omega, ⟨q, List.mem_cons_of_mem _ hq, hq'⟩, fun rest => ?_⟩
            rw [show s - at_ = (s - (at_ + 1)) + 1 by omega, List.take_succ_cons, List.cons_append, scanL_cons, hd]
            dsimp only
            rw [if_neg hc, if_neg hk]
            exact h3 rest
section
variable {D : Dev} {L : Lg} {n least G s f : Nat} {B W : List Page} {x R : List (List UInt8)}
theorem Ep.same {D' : Dev} (e : Ep D L n least G B W s f x R) (c : Core D' n L.start L.count s f B W) (h : D.down = true → D'.down = true) : Ep D' L n least G B W s f x R :=
  ⟨c, e.lwf, e.len, e.base, e.tame, e.gen, e.least1, e.leastg, e.small, e.pages, fun ho => h (e.over ho)⟩
theorem Ep.fuse (e : Ep D L n least G B W s f x R) {k : Int} (hk : k ≤ 9223372036854775807) : Ep (fuseD D k) L n least G B W s f x R := e.same (e.core.fuse hk) id
theorem Ep.other (e : Ep D L n least G B W s f x R) {i : Int} {xs : List UInt8} (hi : i < L.start ∨ (L.start + L.count : Nat) ≤ i) : Ep (writeD D i xs).2 L n least G B W s f x R :=
  e.same (e.core.other hi).1 (e.core.other hi).2
theorem put_ep {W0 : List Page} (b : List UInt8) (hr : s + W0.length + partsN b.length ≤ L.count) (hn : L.next = s + W0.length) : ∀ (k i : Nat) (D : Dev), i + k = partsN b.length → Core D n L.start L.count s f B (W0 ++ recQ L.gen L.next b (partsN b.length) i 0) →
    ((putA L b k i D).1 = 0 ∧ Core (putA L b k i D).2 n L.start L.count s f B (W0 ++ recP L.gen L.next b)) ∨
    ((putA L b k i D).1 = 6 ∧ (putA L b k i D).2.down = true ∧ ∃ i', i' < partsN b.length ∧ Core (putA L b k i D).2 n L.start L.count s f B (W0 ++ recQ L.gen L.next b (partsN b.length) i' 0))
  | 0, i, D, hi, c => by
    obtain rfl : i = partsN b.length := by omega
    exact .inl ⟨rfl, c⟩
  | k + 1, i, D, hi, c => by
    have hx := pageA_len L b i
    have hl : (W0 ++ recQ L.gen L.next b (partsN b.length) i 0).length = W0.length + i := by rw [List.length_append, recQ_length]
    have hw := c.write hx (by rw [hl]; omega)
    rw [hl, show L.start + s + (W0.length + i) = L.start + L.next + i by omega] at hw
    rw [putA_succ]
    rcases hw with ⟨h0, _, c'⟩ | ⟨h6, hd, c'⟩
    · rw [if_neg (by simpa using h0)]
      refine put_ep b hr hn k (i + 1) _ (by omega) ?_
      rw [recQ_snoc, ← List.append_assoc]
      have : pageW L.gen (L.next + (0 + i) + 1) (kindN (0 + i) (partsN b.length)) (partB b (0 + i)) = pageA L b i := by rw [Nat.zero_add]; rfl
      rw [this]
      exact c'
    · rw [if_pos (by rw [h6]; omega)]
      exact .inr ⟨h6, hd, i, by omega, c'⟩
theorem Ep.append (e : Ep D L n least G B W s f x R) {b : List UInt8} (hb : b.length ≤ 6000) :
    ((appendD L D b).1 = 5 ∧ (appendD L D b).2 = (L, D)) ∨
    ((appendD L D b).1 = 0 ∧ L.over = false ∧ (appendD L D b).2.1.over = false ∧ ∃ W', Ep (appendD L D b).2.2 (appendD L D b).2.1 n least G B W' s f x (R ++ [b])) ∨
    ((appendD L D b).1 = 6 ∧ (appendD L D b).2.1.over = true ∧ ∃ W', Ep (appendD L D b).2.2 (appendD L D b).2.1 n least G B W' s f x R) := by
  have hlw := appendD_lwf (D := D) e.lwf b
  unfold appendD at hlw ⊢
  cases hov : L.over
  rotate_left
  · rw [if_pos rfl]
    exact .inr (.inr ⟨rfl, hov, W, e⟩)
  rw [hov, if_neg (show ¬false = true by simp), if_neg (by omega)] at hlw
  rw [if_neg (show ¬false = true by simp), if_neg (by omega)]
  by_cases h2 : L.count < L.next + partsN b.length
  · rw [if_pos h2]; exact .inl ⟨rfl, rfl⟩
  rw [if_neg h2] at hlw ⊢
  obtain ⟨part, hW, hrest, hno⟩ := e.pages
  obtain ⟨hp, hn⟩ := hno hov
  subst hp
  rw [List.append_nil] at hW
  have hWl : W.length = partsS R := by rw [hW, recsP_length]
  have hput := put_ep (L := L) (n := n) (s := s) (f := f) (B := B) (W0 := W) b (by omega) (by omega) (partsN b.length) 0 D (by omega) (by rw [recQ, List.append_nil]; exact e.core)
  have hW' : W ++ recP L.gen L.next b = recsP L.gen s (R ++ [b]) := by rw [recsP_snoc, hW, hn]
  rcases hput with ⟨h0, c⟩ | ⟨h6, hd, i, hi, c⟩
  · rw [if_neg (by simpa using h0)] at hlw ⊢
    refine .inr (.inl ⟨rfl, rfl, by first | rfl | exact hov, W ++ recP L.gen L.next b, ?_⟩)
    refine ⟨c, hlw.1, e.len, e.base, e.tame, e.gen, e.least1, e.leastg, ?_, ⟨[], ?_, rest_nil _ _, fun _ => ⟨rfl, ?_⟩⟩, fun h => ?_⟩
    · intro y hy
      rcases List.mem_append.1 hy with h | h
      · exact e.small y h
      · rw [List.mem_singleton.1 h]; exact hb
    · rw [List.append_nil]; exact hW'
    · dsimp only; rw [partsS_snoc, hn]; omega
    · cases h
  · rw [if_pos (by rw [h6]; omega)] at hlw ⊢
    refine .inr (.inr ⟨h6, ?_, W ++ recQ L.gen L.next b (partsN b.length) i 0, ?_⟩)
    · show (L.over || (putA L b (partsN b.length) 0 D).1 == 6) = true
      rw [h6, hov]; rfl
    · refine ⟨c, hlw.1, e.len, e.base, e.tame, e.gen, e.least1, e.leastg, e.small, ⟨recQ L.gen L.next b (partsN b.length) i 0, by rw [hW]; rfl, ⟨b, i, hb, hi, by rw [hn]; rfl⟩, fun h => ?_⟩, fun _ => hd⟩
      have h : (L.over || (putA L b (partsN b.length) 0 D).1 == 6) = false := h
      rw [h6, hov] at h
      cases h
theorem Ep.flush (e : Ep D L n least G B W s f x R) :
    ((flushL L D).1 = 0 ∧ L.over = false ∧ (flushL L D).2.1 = L ∧ Ep (flushL L D).2.2 L n least G B W s W.length x R) ∨
    ((flushL L D).1 = 6 ∧ (flushL L D).2.1.over = true ∧ Ep (flushL L D).2.2 (flushL L D).2.1 n least G B W s f x R) := by
  unfold flushL
  cases hov : L.over
  rotate_left
  · rw [if_pos rfl]
    exact .inr ⟨rfl, hov, e⟩
  rw [if_neg (by simp)]
  rcases e.core.flush with ⟨h0, h1, h2, c⟩ | ⟨h6, hd, c⟩
  · refine .inl ⟨h0, rfl, ?_, ?_⟩
    · dsimp only
      rw [h0]
      unfold overL
      simp
    · exact ⟨c, e.lwf, e.len, e.base, e.tame, e.gen, e.least1, e.leastg, e.small, e.pages, fun h => by rw [hov] at h; cases h⟩
  · refine .inr ⟨h6, ?_, ?_⟩
    · dsimp only
      rw [h6]
      simp [overL]
    · dsimp only
      rw [h6]
      obtain ⟨part, hW, hrest, hno⟩ := e.pages
      exact ⟨c, ⟨e.lwf.next, e.lwf.room, e.lwf.max, e.lwf.gen⟩, e.len, e.base, e.tame, e.gen, e.least1, e.leastg, e.small, ⟨part, hW, hrest, fun h => by simp [overL] at h⟩, fun _ => hd⟩
/-- The device's own flush. -/
theorem Ep.flushed (e : Ep D L n least G B W s f x R) : Ep (flushD D).2 L n least G B W s (if (flushD D).1 = 0 then W.length else f) x R := by
  rcases e.core.flush with ⟨h0, h1, h2, c⟩ | ⟨h6, hd, c⟩
  · rw [if_pos h0]
    exact ⟨c, e.lwf, e.len, e.base, e.tame, e.gen, e.least1, e.leastg, e.small, e.pages, fun h => by have := e.over h; rw [h1] at this; cases this⟩
  · rw [if_neg (by omega)]
    exact e.same c fun _ => hd
/-- A log that was just opened. -/
theorem ep_open {d start count gen : Nat} (wf : D.Wf n) (hr : start + count ≤ n) (hg : gen < 4294967296) (hq : D.queue = []) (tame : ∀ j, j < count → Tame G j (D.lasts.getD (start + j) [])) (hG : G < gen) (h1 : 1 ≤ least) (h2 : least ≤ gen) :
    Ep D ⟨d, start, count, gen, (scanD D start count least).2, false⟩ n least G (reg D start count) [] (scanD D start count least).2 0 (scanD D start count least).1 [] := by
  have hs : D.seen = D.lasts := by rw [Dev.seen, hq]; rfl
  have hreg : ∀ j, j < count → (reg D start count).getD j [] = D.lasts.getD (start + j) [] := fun j hj => by
    rw [reg, hs, List.getD_eq_getElem?_getD, List.getD_eq_getElem?_getD, List.getElem?_take, if_pos hj, List.getElem?_drop]
  have hl := reg_length (D := D) wf hr
  have hsc := scanL_le (reg D start count) 0 least 0 [] [] 0 (Nat.zero_le _)
  rw [hl, Nat.zero_add] at hsc
  have hsc : (scanD D start count least).2 ≤ count := hsc
  refine ⟨⟨wf, hr, Nat.le_refl _, by simpa using hsc, fun j hj => ?_, fun j hj => ?_⟩, ⟨hsc, hr, wf.max, hg⟩, hl, rfl, fun j hj => ?_, hG, h1, h2, fun b hb => (by cases hb), ⟨[], rfl, rest_nil _ _, fun _ => ⟨rfl, by simp [partsS]⟩⟩, fun h => (by cases h)⟩
  · rw [if_neg (by omega), hreg j hj]
  · rw [if_neg (by simp only [List.length_nil]; omega), hq]; rfl
  · rw [hreg j hj]; exact tame j hj
theorem recQ_get {g at_ N : Nat} {b : List UInt8} : ∀ (k i j : Nat), j < k → ∃ kd c, c.length ≤ 110 ∧ (recQ g at_ b N k i).getD j [] = pageW g (at_ + i + j + 1) kd c
  | 0, i, j, h => by omega
  | k + 1, i, 0, h => ⟨_, _, partB_len b i, rfl⟩
  | k + 1, i, j + 1, h => by
    obtain ⟨kd, c, hc, e⟩ := recQ_get (g := g) (at_ := at_) (N := N) (b := b) k (i + 1) j (by omega)
    refine ⟨kd, c, hc, ?_⟩
    rw [show at_ + i + (j + 1) + 1 = at_ + (i + 1) + j + 1 by omega]
    exact e
theorem getD_append_left {a b : List Page} {j : Nat} (h : j < a.length) : (a ++ b).getD j [] = a.getD j [] := by
  rw [List.getD_eq_getElem?_getD, List.getElem?_append_left h, ← List.getD_eq_getElem?_getD]
theorem getD_append_right {a b : List Page} {j : Nat} (h : a.length ≤ j) : (a ++ b).getD j [] = b.getD (j - a.length) [] := by
  rw [List.getD_eq_getElem?_getD, List.getElem?_append_right h, ← List.getD_eq_getElem?_getD]
theorem recsP_get {g : Nat} : ∀ (rs : List (List UInt8)) (at_ j : Nat), j < partsS rs → ∃ kd c, c.length ≤ 110 ∧ (recsP g at_ rs).getD j [] = pageW g (at_ + j + 1) kd c
  | [], at_, j, h => by simp [partsS] at h
  | b :: rs, at_, j, h => by
    rw [partsS] at h
    rw [recsP]
    by_cases hj : j < partsN b.length
    · rw [getD_append_left (by rw [recP_length]; exact hj)]
      obtain ⟨kd, c, hc, e⟩ := recQ_get (g := g) (at_ := at_) (N := partsN b.length) (b := b) (partsN b.length) 0 j hj
      exact ⟨kd, c, hc, by rw [recP, e]; rfl⟩
    · rw [getD_append_right (by rw [recP_length]; omega), recP_length]
      obtain ⟨kd, c, hc, e⟩ := recsP_get rs (at_ + partsN b.length) (j - partsN b.length) (by omega)
      refine ⟨kd, c, hc, ?_⟩
      rw [e]
      congr 1
      omega
theorem Ep.page (e : Ep D L n least G B W s f x R) {j : Nat} (hj : j < W.length) : ∃ kd c, c.length ≤ 110 ∧ W.getD j [] = pageW L.gen (s + j + 1) kd c := by
  obtain ⟨part, hW, ⟨b, k, hb, hk, hp⟩, hno⟩ := e.pages
  subst hW
  by_cases h : j < partsS R
  · rw [getD_append_left (by rw [recsP_length]; exact h)]
    exact recsP_get R s j h
  · rw [List.length_append, recsP_length, hp, recQ_length] at hj
    rw [getD_append_right (by rw [recsP_length]; omega), recsP_length, hp]
    obtain ⟨kd, c, hc, e⟩ := recQ_get (g := L.gen) (at_ := s + partsS R) (N := partsN b.length) (b := b) k 0 (j - partsS R) (by omega)
    refine ⟨kd, c, hc, ?_⟩
    rw [e]
    congr 1
    omega
/-- Behind a crash: the records are those that were there, and the first ones of those that were appended since; all those whose pages last. -/
theorem Ep.crash (e : Ep D L n least G B W s f x R) (hg : L.gen < 256) (hc : L.count < 255) (list : List Int) :
    ∃ m, m ≤ R.length ∧ (scanD (restartD D list) L.start L.count least).1 = x ++ R.take m ∧ (∀ q, q ≤ R.length → partsS (R.take q) ≤ f → q ≤ m) ∧
      (restartD D list).Wf n ∧ (restartD D list).queue = [] ∧ (restartD D list).down = false ∧ ∀ j, j < L.count → Tame L.gen j ((restartD D list).lasts.getD (L.start + j) []) := by
  have wr := restartD_wf e.core.wf list
  have hfit := e.core.fit
  have hroom := e.core.room
  have hfl := e.core.fl
  generalize hE : restartD D list = E at *
  have hEq : E.queue = [] := by rw [← hE]; rfl
  have hEd : E.down = false := by rw [← hE]; rfl
  have hs : E.seen = E.lasts := by rw [Dev.seen, hEq]; rfl
  have hreg : ∀ j, j < L.count → (reg E L.start L.count).getD j [] = E.lasts.getD (L.start + j) [] := fun j hj => by
    rw [reg, hs, List.getD_eq_getElem?_getD, List.getD_eq_getElem?_getD, List.getElem?_take, if_pos hj, List.getElem?_drop]
  have hl := reg_length (D := E) wr hfit
  have key : ∀ j, j < L.count → Tame L.gen j (E.lasts.getD (L.start + j) []) ∧
      ((s ≤ j ∧ j < s + W.length ∧ (E.lasts.getD (L.start + j) [] = W.getD (j - s) [] ∨ (s + f ≤ j ∧ (E.lasts.getD (L.start + j) [] = B.getD j [] ∨ Bad (E.lasts.getD (L.start + j) []))))) ∨ (¬(s ≤ j ∧ j < s + W.length) ∧ E.lasts.getD (L.start + j) [] = B.getD j [])) := by
    intro j hj
    rcases e.core.restart list hj with ⟨h1, h2⟩ | ⟨h2, t, h1⟩
    · rw [hE] at h1
      by_cases hsj : s ≤ j ∧ j < s + f
      · rw [if_pos hsj] at h1
        refine ⟨?_, .inl ⟨hsj.1, by omega, .inl h1⟩⟩
        obtain ⟨kd, c, hc', e'⟩ := e.page (j := j - s) (by omega)
        rw [h1, e', show s + (j - s) + 1 = j + 1 by omega]
        exact tame_page hg (by omega) hc'
      · rw [if_neg hsj] at h1
        exact ⟨by rw [h1]; exact (e.tame j hj).mono (Nat.le_of_lt e.gen), .inr ⟨by omega, h1⟩⟩
    · rw [hE] at h1
      obtain ⟨kd, c, hc', e'⟩ := e.page (j := j - s) (by omega)
      rw [show s + (j - s) + 1 = j + 1 by omega] at e'
      rw [e'] at h1
      have ht := torn_page (t := t) (k := kd) (e.tame j hj) e.gen hg (by omega) hc'
      rw [← h1] at ht
      exact ⟨ht.1, .inl ⟨by omega, by omega, by rw [e']; rcases ht.2 with h | h | h; exact .inl h; exact .inr ⟨h2.1, .inl h⟩; exact .inr ⟨h2.1, .inr h⟩⟩⟩
  have hsplit : reg E L.start L.count = B.take s ++ (reg E L.start L.count).drop s := by
    have : (reg E L.start L.count).take s = B.take s := by
      apply List.ext_getElem?
      intro j
      rw [List.getElem?_take, List.getElem?_take]
      by_cases hj : j < s
      · rw [if_pos hj, if_pos hj]
        have hjc : j < L.count := by omega
        have h1 := hreg j hjc
        rcases (key j hjc).2 with ⟨h, _⟩ | ⟨_, h⟩
        · omega
        · rw [h] at h1
          rw [List.getD_eq_getElem?_getD, List.getD_eq_getElem?_getD, List.getElem?_eq_getElem (show j < (reg E L.start L.count).length by omega), List.getElem?_eq_getElem (show j < B.length by rw [e.len]; omega)] at h1
          rw [List.getElem?_eq_getElem (show j < (reg E L.start L.count).length by omega), List.getElem?_eq_getElem (show j < B.length by rw [e.len]; omega)]
          exact congrArg some h1
      · rw [if_neg hj, if_neg hj]
    rw [← this, List.take_append_drop]
  have hold : OldL L.gen (B.drop s) := by
    intro p hp place least' g' k b hd
    obtain ⟨j, hj, rfl⟩ := List.mem_iff_getElem.1 (List.mem_of_mem_drop hp)
    have hjc : j < L.count := by rw [← e.len]; exact hj
    have ht := e.tame j hjc
    rw [List.getD_eq_getElem?_getD, List.getElem?_eq_getElem hj] at ht
    have := ht.gen (by have := e.gen; omega) (by omega) hd
    have := e.gen
    omega
  have hmix : MixL f W (B.drop s) ((reg E L.start L.count).drop s) := by
    refine mixL_of W _ _ f (by rw [List.length_drop, e.len]; omega) (by rw [List.length_drop, List.length_drop, e.len, hl]) (fun j hj => ?_) fun j hj => ?_
    · have hjc : s + j < L.count := by omega
      have h1 := hreg (s + j) hjc
      rw [List.getD_eq_getElem?_getD, List.getElem?_drop, ← List.getD_eq_getElem?_getD, h1]
      rcases (key (s + j) hjc).2 with ⟨_, _, h⟩ | ⟨h, _⟩
      · rw [show s + j - s = j by omega] at h
        rcases h with h | ⟨h2, h⟩
        · exact .inl h
        · refine .inr ⟨by omega, ?_⟩
          rw [List.getD_eq_getElem?_getD (l := B.drop s), List.getElem?_drop, ← List.getD_eq_getElem?_getD]
          exact h
      · omega
    · rw [List.getD_eq_getElem?_getD, List.getElem?_drop, ← List.getD_eq_getElem?_getD, List.getD_eq_getElem?_getD (l := B.drop s), List.getElem?_drop, ← List.getD_eq_getElem?_getD]
      by_cases hjc : s + j < L.count
      · rw [hreg _ hjc]
        rcases (key (s + j) hjc).2 with ⟨_, h, _⟩ | ⟨_, h⟩
        · omega
        · exact h
      · rw [List.getD_eq_getElem?_getD, List.getD_eq_getElem?_getD, List.getElem?_eq_none (by omega), List.getElem?_eq_none (by rw [e.len]; omega)]
  have hst : ∃ l', 1 ≤ l' ∧ l' ≤ L.gen ∧ ∀ rest, scanL (B.take s ++ rest) 0 least 0 [] [] 0 = scanL rest s l' 0 [] x s := by
    rcases scan_split B 0 least 0 [] [] 0 x s e.base with ⟨h1, h2⟩ | ⟨_, l', h2, ⟨p, hp, place, ls, k, b, hd⟩, h3⟩
    · subst h1; subst h2
      exact ⟨least, e.least1, e.leastg, fun rest => by rw [List.take_zero, List.nil_append]⟩
    · refine ⟨l', by have := e.least1; omega, ?_, h3⟩
      obtain ⟨j, hj, rfl⟩ := List.mem_iff_getElem.1 hp
      have hjc : j < L.count := by rw [← e.len]; exact hj
      have ht := e.tame j hjc
      rw [List.getD_eq_getElem?_getD, List.getElem?_eq_getElem hj] at ht
      have := ht.gen (by have := e.gen; omega) (by omega) hd
      have := e.gen
      omega
  obtain ⟨l', hl1, hlg, hrest⟩ := hst
  have hnone : scanL (B.drop s) s l' 0 [] x s = (x, s) := by
    rw [← hrest, List.take_append_drop]; exact e.base
  obtain ⟨part, hW, hr9, hno⟩ := e.pages
  rw [hW] at hmix
  have hps : partsS R ≤ W.length := by rw [hW, List.length_append, recsP_length]; omega
  have hmax := e.lwf.max
  obtain ⟨m, h1, h2, h3⟩ := scan_crash e.lwf.gen (by have := e.gen; omega) R part s f l' (B.drop s) ((reg E L.start L.count).drop s) x e.small (by omega) hr9 hl1 hlg hold hmix hnone
  refine ⟨m, h1, ?_, h3, wr, hEq, hEd, fun j hj => (key j hj).1⟩
  rw [scanD_reg, hsplit, hrest, h2]
end
end Go.Proofs.Ytgeoelahfljefaa
