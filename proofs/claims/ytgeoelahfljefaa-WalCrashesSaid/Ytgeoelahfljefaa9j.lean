/- Layer 9: the records of a log behind a crash (no program in sight). -/
import Derived.Test.Ytgeoelahfljefaa9i
set_option linter.unusedVariables false
set_option maxRecDepth 100000
namespace Go.Proofs.Ytgeoelahfljefaa
open Go Go.Vc Go.Proofs
abbrev Page := List UInt8
/-- Pages W were written over B, of which the first f lasted; R is what is left. -/
def MixL : Nat → List Page → List Page → List Page → Prop
  | _, [], B, R => R = B
  | f, w :: W, b :: B, r :: R => (r = w ∨ (f = 0 ∧ (r = b ∨ Bad r))) ∧ MixL (f - 1) W B R
  | _, _, _, _ => False
/-- Right pages have lesser generations. -/
def OldL (g : Nat) (B : List Page) : Prop := ∀ p ∈ B, ∀ place least g' k b, decW p place least = some (g', k, b) → g' < g
def NewL (g : Nat) (W : List Page) : Prop := ∀ p ∈ W, ∀ place least g' k b, decW p place least = some (g', k, b) → g' = g
theorem scan_ext : ∀ (ps : List Page) (at_ least bg : Nat) (rc : List UInt8) (recs : List (List UInt8)) (nx : Nat), ∃ m, (scanL ps at_ least bg rc recs nx).1 = recs ++ m
  | [], _, _, _, _, recs, _ => ⟨[], by simp [scanL]⟩
  | p :: ps, at_, least, bg, rc, recs, nx => by
    rw [scanL_cons]
    split
    · exact ⟨[], by simp⟩
    · split
      · exact ⟨[], by simp⟩
      · split
        · rename_i g k b _ _ _
          obtain ⟨m, h⟩ := scan_ext ps (at_ + 1) g 0 [] (recs ++ [rc ++ b]) (at_ + 1)
          exact ⟨(rc ++ b) :: m, by rw [h]; simp⟩
        · rename_i g k b _ _ _
          exact scan_ext ps (at_ + 1) g g (rc ++ b) recs nx
theorem scan_more {ps : List Page} {at_ least bg : Nat} {rc x : List UInt8} {recs : List (List UInt8)} {nx nx' : Nat} : scanL ps at_ least bg rc (recs ++ [x]) nx ≠ (recs, nx') := fun h => by
  obtain ⟨m, e⟩ := scan_ext ps at_ least bg rc (recs ++ [x]) nx
  rw [h] at e
  have := congrArg List.length e
  simp at this
theorem scan_small : ∀ (ps : List Page) (at_ least bg : Nat) (rc : List UInt8) (recs : List (List UInt8)) (nx : Nat), (∀ b ∈ recs, b.length ≤ 6000) → ∀ b ∈ (scanL ps at_ least bg rc recs nx).1, b.length ≤ 6000
  | [], _, _, _, _, recs, _, h => h
  | p :: ps, at_, least, bg, rc, recs, nx, h => by
    rw [scanL_cons]
    split
    · exact h
    · split
      · exact h
      · rename_i g k b _ hc
        split
        · refine scan_small ps (at_ + 1) g 0 [] (recs ++ [rc ++ b]) (at_ + 1) fun x hx => ?_
          rcases List.mem_append.1 hx with hx | hx
          · exact h x hx
          · rw [List.mem_singleton.1 hx]
            have h3 := fun hh => hc (.inr (.inr hh))
            omega
        · exact scan_small ps (at_ + 1) g g (rc ++ b) recs nx h
/-- In the middle of an elder record: nothing new is read. -/
theorem scan_mid {g : Nat} : ∀ (W B R : List Page) (f at_ l bg : Nat) (rc : List UInt8) (x : List (List UInt8)) (s : Nat), MixL f W B R → NewL g W → OldL g B → bg ≠ 0 → bg < g → 1 ≤ l →
    scanL B at_ l bg rc x s = (x, s) → scanL R at_ l bg rc x s = (x, s)
  | [], B, R, f, at_, l, bg, rc, x, s, hm, _, _, _, _, _, h => by rw [show R = B from hm]; exact h
  | w :: W, b :: B, r :: R, f, at_, l, bg, rc, x, s, hm, hw, ho, hb0, hbg, hl, h => by
    obtain ⟨h1, hm⟩ := hm
    rw [scanL_cons] at h ⊢
    rcases h1 with rfl | ⟨rfl, rfl | hbad⟩
    · cases hd : decW r (at_ + 1) l with
      | none => rfl
      | some y =>
        obtain ⟨g', k, part⟩ := y
        have := hw r (List.mem_cons_self ..) _ _ _ _ _ hd
        dsimp only
        rw [if_pos (.inr (.inl ⟨hb0, by omega⟩))]
    · cases hd : decW r (at_ + 1) l with
      | none => rfl
      | some y =>
        obtain ⟨g', k, part⟩ := y
        have hg := ho r (List.mem_cons_self ..) _ _ _ _ _ hd
        have hle := decW_least hd
        rw [hd] at h
        dsimp only at h ⊢
        split
        · rfl
        · rename_i hc
          rw [if_neg hc] at h
          split
          · rename_i hk
            rw [if_pos hk] at h
            exact absurd h scan_more
          · rename_i hk
            rw [if_neg hk] at h
            exact scan_mid W B R 0 (at_ + 1) g' g' (rc ++ part) x s hm (fun p hp => hw p (List.mem_cons_of_mem _ hp)) (fun p hp => ho p (List.mem_cons_of_mem _ hp)) (by omega) hg (by omega) h
    · rw [hbad]
  | _ :: _, [], [], _, _, _, _, _, _, _, hm, _, _, _, _, _, _ => hm.elim
  | _ :: _, [], _ :: _, _, _, _, _, _, _, _, hm, _, _, _, _, _, _ => hm.elim
  | _ :: _, _ :: _, [], _, _, _, _, _, _, _, hm, _, _, _, _, _, _ => hm.elim
/-- Behind a new page no elder one is right. -/
theorem scan_stop {g at_ bg nx : Nat} {rc : List UInt8} {recs : List (List UInt8)} {b : Page} {B R : List Page} (ho : OldL g (b :: B)) {r : Page} (h : r = b ∨ Bad r) : scanL (r :: R) at_ g bg rc recs nx = (recs, nx) := by
  rw [scanL_cons]
  cases hd : decW r (at_ + 1) g with
  | none => rfl
  | some y =>
    obtain ⟨g', k, part⟩ := y
    rcases h with rfl | h
    · have h1 := ho r (List.mem_cons_self ..) _ _ _ _ _ hd
      have h2 := decW_least hd
      omega
    · rw [h] at hd; cases hd
theorem OldL.drop {g : Nat} {B : List Page} (h : OldL g B) (n : Nat) : OldL g (B.drop n) := fun p hp => h p (List.mem_of_mem_drop hp)
theorem scan_none {g at_ bg nx : Nat} {rc : List UInt8} {recs : List (List UInt8)} {B : List Page} (ho : OldL g B) : scanL B at_ g bg rc recs nx = (recs, nx) := by
  cases B with
  | nil => rfl
  | cons b B => exact scan_stop ho (.inl rfl)
theorem scan_page {g at_ : Nat} {b : List UInt8} (hb : b.length ≤ 6000) (hg : g < 4294967296) (hg1 : 1 ≤ g) (ha : at_ + partsN b.length < 1000000000) {i lst : Nat} (R : List Page) (recs : List (List UInt8)) (nx : Nat) (hi : i < partsN b.length) (hl : lst ≤ g) :
    scanL (pageW g (at_ + i + 1) (kindN i (partsN b.length)) (partB b i) :: R) (at_ + i) lst (if i = 0 then 0 else g) (b.take (110 * i)) recs nx =
      if i + 1 = partsN b.length then scanL R (at_ + partsN b.length) g 0 [] (recs ++ [b]) (at_ + partsN b.length) else scanL R (at_ + (i + 1)) g g (b.take (110 * (i + 1))) recs nx := by
  have hkl := kindN_last i (partsN b.length)
  have hkf := kindN_first i (partsN b.length)
  have hdec : decW (pageW g (at_ + i + 1) (kindN i (partsN b.length)) (partB b i)) (at_ + i + 1) lst = some (g, kindN i (partsN b.length), partB b i) := by
    rw [decW_page (partB_len b i) (by omega) hg (kindN_le _ _) ?_, if_pos hl]
    by_cases he : i + 1 = partsN b.length
    · exact .inr (hkl.2 he)
    · exact .inl (part_full (by omega))
  have hlen : (b.take (110 * i) ++ partB b i).length ≤ 6000 := by rw [take_part, List.length_take]; omega
  rw [scanL_cons, hdec]
  dsimp only
  rw [if_neg, take_part]
  · by_cases he : i + 1 = partsN b.length
    · rw [if_pos (hkl.2 he), if_pos he, List.take_of_length_le (by unfold partsN at he; omega)]
      rw [show at_ + i + 1 = at_ + partsN b.length by omega]
    · rw [if_neg (fun hh => he (hkl.1 hh)), if_neg he]
      rw [show at_ + i + 1 = at_ + (i + 1) by omega]
  · rintro (h | h | h)
    · apply h
      rw [hkf]
      by_cases h0 : i = 0
      · simp [h0]
      · simp [h0]; omega
    · split at h <;> omega
    · omega
section
variable {g at_ : Nat} {b : List UInt8}
/-- A record's pages, from a part i > 0 on: either the record is not found, or all of it is. -/
theorem scan_full (hb : b.length ≤ 6000) (hg : g < 4294967296) (hg1 : 1 ≤ g) (ha : at_ + partsN b.length < 1000000000) : ∀ (k i f : Nat) (W B R : List Page) (recs : List (List UInt8)) (nx : Nat), 1 ≤ i → i + k = partsN b.length → 1 ≤ k → OldL g B →
    MixL f (recQ g at_ b (partsN b.length) k i ++ W) B R →
    (scanL R (at_ + i) g g (b.take (110 * i)) recs nx = (recs, nx) ∧ f < k) ∨
    (∃ B' R', OldL g B' ∧ MixL (f - k) W B' R' ∧ scanL R (at_ + i) g g (b.take (110 * i)) recs nx = scanL R' (at_ + partsN b.length) g 0 [] (recs ++ [b]) (at_ + partsN b.length))
  | 0, i, f, W, B, R, recs, nx, hi, hik, hk, ho, hm => by omega
  | k + 1, i, f, W, b' :: B, r :: R, recs, nx, hi, hik, hk, ho, hm => by
    rw [recQ, List.cons_append] at hm
    obtain ⟨h1, hm⟩ := hm
    rcases h1 with rfl | ⟨rfl, h⟩
    · have hp := scan_page hb hg hg1 ha (i := i) (lst := g) R recs nx (by omega) (Nat.le_refl _)
      rw [if_neg (by omega)] at hp
      rw [hp]
      have ho' : OldL g B := fun p hp => ho p (List.mem_cons_of_mem _ hp)
      by_cases he : i + 1 = partsN b.length
      · rw [if_pos he]
        obtain rfl : k = 0 := by omega
        exact .inr ⟨B, R, ho', hm, rfl⟩
      · rw [if_neg he]
        rcases scan_full hb hg hg1 ha k (i + 1) (f - 1) W B R recs nx (by omega) (by omega) (by omega) ho' hm with ⟨h1, h2⟩ | ⟨B', R', h1, h2, h3⟩
        · exact .inl ⟨h1, by omega⟩
        · refine .inr ⟨B', R', h1, ?_, h3⟩
          rw [show f - (k + 1) = f - 1 - k by omega]
          exact h2
    · exact .inl ⟨scan_stop ho h, by omega⟩
  | _ + 1, _, _, _, [], [], _, _, _, _, _, _, hm => hm.elim
  | _ + 1, _, _, _, [], _ :: _, _, _, _, _, _, _, hm => hm.elim
  | _ + 1, _, _, _, _ :: _, [], _, _, _, _, _, _, hm => hm.elim
/-- Part of a record's pages: it is not found. -/
theorem scan_part (hb : b.length ≤ 6000) (hg : g < 4294967296) (hg1 : 1 ≤ g) (ha : at_ + partsN b.length < 1000000000) : ∀ (k i f : Nat) (B R : List Page) (recs : List (List UInt8)) (nx : Nat), 1 ≤ i → i + k < partsN b.length → OldL g B →
    MixL f (recQ g at_ b (partsN b.length) k i) B R → scanL R (at_ + i) g g (b.take (110 * i)) recs nx = (recs, nx)
  | 0, i, f, B, R, recs, nx, hi, hik, ho, hm => by
    rw [show R = B from hm]
    exact scan_none ho
  | k + 1, i, f, b' :: B, r :: R, recs, nx, hi, hik, ho, hm => by
    obtain ⟨h1, hm⟩ := hm
    rcases h1 with rfl | ⟨rfl, h⟩
    · have hp := scan_page hb hg hg1 ha (i := i) (lst := g) R recs nx (by omega) (Nat.le_refl _)
      rw [if_neg (by omega), if_neg (by omega)] at hp
      rw [hp]
      exact scan_part hb hg hg1 ha k (i + 1) (f - 1) B R recs nx (by omega) (by omega) (fun p hp => ho p (List.mem_cons_of_mem _ hp)) hm
    · exact scan_stop ho h
  | _ + 1, _, _, [], [], _, _, _, _, _, hm => hm.elim
  | _ + 1, _, _, [], _ :: _, _, _, _, _, _, hm => hm.elim
  | _ + 1, _, _, _ :: _, [], _, _, _, _, _, hm => hm.elim
theorem newL_page {q k : Nat} {c : List UInt8} (hg : g < 4294967296) (hq : q < 4294967296) {p : Page} (h : p = pageW g q k c) : ∀ place least g' k' b', decW p place least = some (g', k', b') → g' = g := fun _ _ _ _ _ hd => by
  subst h; exact page_gen hg hq hd
theorem newL_recQ (hg : g < 4294967296) {N : Nat} : ∀ (k i : Nat), at_ + i + k < 4294967296 → NewL g (recQ g at_ b N k i)
  | 0, i, _ => fun p hp => (by cases hp)
  | k + 1, i, h => fun p hp => by
    rcases List.mem_cons.1 hp with h1 | h1
    · exact newL_page hg (by omega) h1
    · exact newL_recQ hg k (i + 1) (by omega) p h1
theorem newL_recsP (hg : g < 4294967296) : ∀ (rs : List (List UInt8)) (at_ : Nat), at_ + partsS rs < 4294967296 → NewL g (recsP g at_ rs)
  | [], _, _ => fun p hp => (by cases hp)
  | b :: rs, at_, h => fun p hp => by
    rw [partsS] at h
    rcases List.mem_append.1 hp with h1 | h1
    · exact newL_recQ hg _ _ (by omega) p h1
    · exact newL_recsP hg rs _ (by omega) p h1
/-- The first page is the elder one, or torn: nothing is read, for nothing was read ahead. -/
theorem scan_first {b' r : Page} {W B R : List Page} {f l nx : Nat} {recs : List (List UInt8)} (h : r = b' ∨ Bad r) (hm : MixL f W B R) (hw : NewL g W) (ho : OldL g (b' :: B)) (hl : 1 ≤ l) (hn : scanL (b' :: B) at_ l 0 [] recs nx = (recs, nx)) :
    scanL (r :: R) at_ l 0 [] recs nx = (recs, nx) := by
  rw [scanL_cons] at hn ⊢
  rcases h with rfl | hbad
  · cases hd : decW r (at_ + 1) l with
    | none => rfl
    | some y =>
      obtain ⟨g', k, part⟩ := y
      have hg := ho r (List.mem_cons_self ..) _ _ _ _ _ hd
      have hle := decW_least hd
      rw [hd] at hn
      dsimp only at hn ⊢
      split
      · rfl
      · rename_i hc
        rw [if_neg hc] at hn
        split
        · rename_i hk
          rw [if_pos hk] at hn
          exact absurd hn scan_more
        · rename_i hk
          rw [if_neg hk] at hn
          exact scan_mid W B R f (at_ + 1) g' g' ([] ++ part) recs nx hm hw (fun p hp => ho p (List.mem_cons_of_mem _ hp)) (by omega) hg (by omega) hn
  · rw [hbad]
/-- A record, appended behind what is found. -/
theorem scan_whole (hb : b.length ≤ 6000) (hg : g < 4294967296) (hg1 : 1 ≤ g) (ha : at_ + partsN b.length < 1000000000) {f l nx : Nat} {W B R : List Page} {recs : List (List UInt8)} (hl : 1 ≤ l) (hlg : l ≤ g) (ho : OldL g B) (hw : NewL g W)
    (hm : MixL f (recP g at_ b ++ W) B R) (hn : scanL B at_ l 0 [] recs nx = (recs, nx)) :
    (scanL R at_ l 0 [] recs nx = (recs, nx) ∧ f < partsN b.length) ∨
    (∃ B' R', OldL g B' ∧ MixL (f - partsN b.length) W B' R' ∧ scanL R at_ l 0 [] recs nx = scanL R' (at_ + partsN b.length) g 0 [] (recs ++ [b]) (at_ + partsN b.length)) := by
  have hp1 := parts_pos b.length
  obtain ⟨N, hN⟩ : ∃ N, partsN b.length = N + 1 := ⟨partsN b.length - 1, by omega⟩
  have hrec : recP g at_ b = pageW g (at_ + 0 + 1) (kindN 0 (partsN b.length)) (partB b 0) :: recQ g at_ b (partsN b.length) N 1 := by
    unfold recP
    conv => lhs; arg 5; rw [hN]
    rfl
  rw [hrec, List.cons_append] at hm
  match B, R, hm, ho, hn with
  | b' :: B, r :: R, hm, ho, hn =>
    obtain ⟨h1, hm⟩ := hm
    rcases h1 with rfl | ⟨rfl, h⟩
    · have hp := scan_page hb hg hg1 ha (i := 0) (lst := l) R recs nx (by omega) hlg
      rw [if_pos rfl] at hp
      simp only [Nat.mul_zero, List.take_zero, Nat.add_zero] at hp
      simp only [Nat.add_zero]
      rw [hp]
      have ho' : OldL g B := fun p hp => ho p (List.mem_cons_of_mem _ hp)
      by_cases he : 0 + 1 = partsN b.length
      · rw [if_pos he]
        obtain rfl : N = 0 := by omega
        exact .inr ⟨B, R, ho', by rw [← he]; exact hm, rfl⟩
      · rw [if_neg he]
        rcases scan_full hb hg hg1 ha N 1 (f - 1) W B R recs nx (Nat.le_refl _) (by omega) (by omega) ho' hm with ⟨h1, h2⟩ | ⟨B', R', h1, h2, h3⟩
        · exact .inl ⟨h1, by omega⟩
        · refine .inr ⟨B', R', h1, ?_, h3⟩
          rw [show f - partsN b.length = f - 1 - N by omega]
          exact h2
    · refine .inl ⟨scan_first h hm ?_ ho hl hn, by omega⟩
      intro p hp
      rcases List.mem_append.1 hp with hp | hp
      · exact newL_recQ hg _ _ (by omega) p hp
      · exact hw p hp
  | [], [], hm, _, _ => exact hm.elim
  | [], _ :: _, hm, _, _ => exact hm.elim
  | _ :: _, [], hm, _, _ => exact hm.elim
/-- Part of a record, appended behind what is found. -/
theorem scan_some (hb : b.length ≤ 6000) (hg : g < 4294967296) (hg1 : 1 ≤ g) (ha : at_ + partsN b.length < 1000000000) {f l nx k : Nat} (hk : k < partsN b.length) {B R : List Page} {recs : List (List UInt8)} (hl : 1 ≤ l) (hlg : l ≤ g) (ho : OldL g B)
    (hm : MixL f (recQ g at_ b (partsN b.length) k 0) B R) (hn : scanL B at_ l 0 [] recs nx = (recs, nx)) : scanL R at_ l 0 [] recs nx = (recs, nx) := by
  cases k with
  | zero => rw [show R = B from hm]; exact hn
  | succ k =>
    match B, R, hm, ho, hn with
    | b' :: B, r :: R, hm, ho, hn =>
      obtain ⟨h1, hm⟩ := hm
      rcases h1 with rfl | ⟨rfl, h⟩
      · have hp := scan_page hb hg hg1 ha (i := 0) (lst := l) R recs nx (by omega) hlg
        rw [if_pos rfl] at hp
        simp only [Nat.mul_zero, List.take_zero, Nat.add_zero] at hp
        simp only [Nat.add_zero]
        rw [hp, if_neg (by omega)]
        exact scan_part hb hg hg1 ha k 1 (f - 1) B R recs nx (Nat.le_refl _) (by omega) (fun p hp => ho p (List.mem_cons_of_mem _ hp)) hm
      · exact scan_first h hm (newL_recQ hg _ _ (by omega)) ho hl hn
    | [], [], hm, _, _ => exact hm.elim
    | [], _ :: _, hm, _, _ => exact hm.elim
    | _ :: _, [], hm, _, _ => exact hm.elim
/-- What was written last of all: nothing, or some pages of a record. -/
def Rest9 (g at_ : Nat) (part : List Page) : Prop := ∃ b k, b.length ≤ 6000 ∧ k < partsN b.length ∧ part = recQ g at_ b (partsN b.length) k 0
theorem rest_nil (g at_ : Nat) : Rest9 g at_ [] := ⟨[], 0, by simp, by simp [partsN], rfl⟩
theorem scan_crash (hg : g < 4294967296) (hg1 : 1 ≤ g) : ∀ (rs : List (List UInt8)) (part : List Page) (at_ f l : Nat) (B R : List Page) (recs : List (List UInt8)), (∀ b ∈ rs, b.length ≤ 6000) → at_ + partsS rs < 100000000 → Rest9 g (at_ + partsS rs) part → 1 ≤ l → l ≤ g → OldL g B →
    MixL f (recsP g at_ rs ++ part) B R → scanL B at_ l 0 [] recs at_ = (recs, at_) →
    ∃ m, m ≤ rs.length ∧ scanL R at_ l 0 [] recs at_ = (recs ++ rs.take m, at_ + partsS (rs.take m)) ∧ ∀ q, q ≤ rs.length → partsS (rs.take q) ≤ f → q ≤ m
  | [], part, at_, f, l, B, R, recs, hs, ha, ⟨b, k, hb, hk, hp⟩, hl, hlg, ho, hm, hn => by
    refine ⟨0, Nat.le_refl _, ?_, fun q hq _ => by simpa using hq⟩
    subst hp
    have hbn : partsN b.length ≤ 55 := by unfold partsN; omega
    simp only [partsS, Nat.add_zero] at hm ha
    have := scan_some (at_ := at_) hb hg hg1 (by omega) hk hl hlg ho hm hn
    simpa [partsS] using this
  | b :: rs, part, at_, f, l, B, R, recs, hs, ha, hr, hl, hlg, ho, hm, hn => by
    rw [partsS] at ha hr
    rw [recsP, List.append_assoc] at hm
    have hb := hs b (List.mem_cons_self ..)
    have hw : NewL g (recsP g (at_ + partsN b.length) rs ++ part) := by
      intro p hp
      rcases List.mem_append.1 hp with h | h
      · exact newL_recsP hg rs _ (by omega) p h
      · obtain ⟨b2, k, hb2, hk, rfl⟩ := hr
        have : partsN b2.length ≤ 55 := by unfold partsN; omega
        exact newL_recQ hg _ _ (by omega) p h
    rcases scan_whole hb hg hg1 (by omega) hl hlg ho hw hm hn with ⟨h1, h2⟩ | ⟨B', R', h1, h2, h3⟩
    · refine ⟨0, Nat.zero_le _, by simpa [partsS] using h1, fun q hq hp => ?_⟩
      cases q with
      | zero => exact Nat.le_refl _
      | succ q =>
        rw [List.take_succ_cons, partsS] at hp
        omega
    · obtain ⟨m, e1, e2, e3⟩ := scan_crash hg hg1 rs part (at_ + partsN b.length) (f - partsN b.length) g B' R' (recs ++ [b]) (fun x hx => hs x (List.mem_cons_of_mem _ hx)) (by omega) (by rw [Nat.add_assoc]; exact hr) hg1 (Nat.le_refl _) h1 h2 (scan_none h1)
      refine ⟨m + 1, by simp; omega, ?_, fun q hq hp => ?_⟩
      · rw [h3, e2, List.take_succ_cons, partsS, Nat.add_assoc]
        simp
      · cases q with
        | zero => omega
        | succ q =>
          rw [List.take_succ_cons, partsS] at hp
          have := e3 q (by simpa using hq) (by omega)
          omega
end
end Go.Proofs.Ytgeoelahfljefaa
