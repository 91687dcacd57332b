/- Layer 18: what is put is taken, message by message (no program in sight). -/
import Derived.Test.YthlmiijlhiiccaaGreatmq
set_option linter.unusedVariables false
set_option maxRecDepth 100000
namespace Go.Proofs.YthlmiijlhiiccaaGreat
open Go Go.Vc Go.Proofs Go.Vc.Keys
/-- A field, bare, copied from m into m0. -/
def setF (i : Nat) (m0 m : Ms) : Ms :=
  match i with
  | 0 => { m0 with src := m.src }
  | 1 => { m0 with dst := m.dst }
  | 2 => { m0 with seq := m.seq }
  | 3 => { m0 with epoch := m.epoch }
  | 4 => { m0 with known := m.known }
  | 5 => { m0 with err := m.err }
  | 6 => { m0 with label := m.label }
  | 7 => { m0 with value := m.value }
  | 8 => { m0 with sg := m.sg }
  | 9 => { m0 with growth := m.growth }
  | 10 => { m0 with place := m.place }
  | 11 => { m0 with tree := m.tree }
  | 12 => { m0 with proof := barePr m.proof }
  | 13 => { m0 with chain := m.chain }
  | 14 => { m0 with rows := m.rows.map bareRw }
  | 15 => { m0 with news := m.news }
  | 16 => { m0 with trees := m.trees }
  | _ => m0
theorem mapD_full {α β : Type} {e : α → OB} {d : Dec α} {b : α → α} (g : Good e d b) {k : α → β} {x : α} {y rest : Bytes} (h : e x = some y) : mapD d k (y ++ rest) false = (k (b x), rest, false) := by
  unfold mapD
  rw [g.full _ _ _ h]
theorem mapD_sound {α β : Type} {e : α → OB} {d : Dec α} {b : α → α} (g : Good e d b) {k : α → β} {bs rest : Bytes} {z : β} (h : mapD d k bs false = (z, rest, false)) : ∃ x y, z = k x ∧ e x = some y ∧ bs = y ++ rest ∧ b x = x := by
  unfold mapD at h
  obtain ⟨c1, c2⟩ := Prod.mk.inj h
  obtain ⟨y, q1, q2⟩ := g.sound _ _ _ (eta2 c2)
  exact ⟨_, y, c1.symm, q1, q2, g.bare (eta2 c2)⟩
theorem mapD_fails {α β : Type} {e : α → OB} {d : Dec α} {b : α → α} (g : Good e d b) {k : α → β} (bs : Bytes) : (mapD d k bs true).2.2 = true := g.fails bs
theorem map_id' {α : Type} (l : List α) : List.map id l = l := by simp
theorem good_LV : Good (encL encV) (decL decV) id := (good_L good_V).congr (fun _ => rfl) rfl map_id'
theorem good_LW : Good (encL encW) (decL decW) id := (good_L good_W).congr (fun _ => rfl) rfl map_id'
theorem good_LH : Good (encL encH) (decL decH) id := (good_L good_H).congr (fun _ => rfl) rfl map_id'
theorem good_LR : Good (encL encR) (decL decR) (List.map bareRw) := good_L good_R
theorem decF_full (m0 m : Ms) (i : Nat) {y rest : Bytes} (h : encF m i = some y) : decF m0 i (y ++ rest) false = (setF i m0 m, rest, false) := by
  match i, h with
  | 0, h => exact mapD_full good_N (k := fun x => ({ m0 with src := x } : Ms)) h
  | 1, h => exact mapD_full good_N (k := fun x => ({ m0 with dst := x } : Ms)) h
  | 2, h => exact mapD_full good_N (k := fun x => ({ m0 with seq := x } : Ms)) h
  | 3, h => exact mapD_full good_N (k := fun x => ({ m0 with epoch := x } : Ms)) h
  | 4, h => exact mapD_full good_N (k := fun x => ({ m0 with known := x } : Ms)) h
  | 5, h => exact mapD_full good_E (k := fun x => ({ m0 with err := x } : Ms)) h
  | 6, h => exact mapD_full good_T (k := fun x => ({ m0 with label := x } : Ms)) h
  | 7, h => exact mapD_full good_T (k := fun x => ({ m0 with value := x } : Ms)) h
  | 8, h => exact mapD_full good_G (k := fun x => ({ m0 with sg := x } : Ms)) h
  | 9, h => exact mapD_full good_Tr (k := fun x => ({ m0 with growth := x } : Ms)) h
  | 10, h => exact mapD_full good_Tr (k := fun x => ({ m0 with place := x } : Ms)) h
  | 11, h => exact mapD_full good_H (k := fun x => ({ m0 with tree := x } : Ms)) h
  | 12, h => exact mapD_full good_Pr (k := fun x => ({ m0 with proof := x } : Ms)) h
  | 13, h => exact mapD_full good_LV (k := fun x => ({ m0 with chain := x } : Ms)) h
  | 14, h => exact mapD_full good_LR (k := fun x => ({ m0 with rows := x } : Ms)) h
  | 15, h => exact mapD_full good_LW (k := fun x => ({ m0 with news := x } : Ms)) h
  | 16, h => exact mapD_full good_LH (k := fun x => ({ m0 with trees := x } : Ms)) h
  | n + 17, h =>
    have h : some [] = some y := h
    cases h
    rfl
theorem decF_sound (m0 m1 : Ms) (i : Nat) {bs rest : Bytes} (h : decF m0 i bs false = (m1, rest, false)) : (∃ y, encF m1 i = some y ∧ bs = y ++ rest) ∧ m1 = setF i m0 m1 := by
  match i, h with
  | 0, h =>
    obtain ⟨x, y, e, q1, q2, q3⟩ := mapD_sound good_N (bs := bs) (rest := rest) (z := m1) (k := fun x => ({ m0 with src := x } : Ms)) h
    subst e
    exact ⟨⟨y, q1, q2⟩, rfl⟩
  | 1, h =>
    obtain ⟨x, y, e, q1, q2, q3⟩ := mapD_sound good_N (bs := bs) (rest := rest) (z := m1) (k := fun x => ({ m0 with dst := x } : Ms)) h
    subst e
    exact ⟨⟨y, q1, q2⟩, rfl⟩
  | 2, h =>
    obtain ⟨x, y, e, q1, q2, q3⟩ := mapD_sound good_N (bs := bs) (rest := rest) (z := m1) (k := fun x => ({ m0 with seq := x } : Ms)) h
    subst e
    exact ⟨⟨y, q1, q2⟩, rfl⟩
  | 3, h =>
    obtain ⟨x, y, e, q1, q2, q3⟩ := mapD_sound good_N (bs := bs) (rest := rest) (z := m1) (k := fun x => ({ m0 with epoch := x } : Ms)) h
    subst e
    exact ⟨⟨y, q1, q2⟩, rfl⟩
  | 4, h =>
    obtain ⟨x, y, e, q1, q2, q3⟩ := mapD_sound good_N (bs := bs) (rest := rest) (z := m1) (k := fun x => ({ m0 with known := x } : Ms)) h
    subst e
    exact ⟨⟨y, q1, q2⟩, rfl⟩
  | 5, h =>
    obtain ⟨x, y, e, q1, q2, q3⟩ := mapD_sound good_E (bs := bs) (rest := rest) (z := m1) (k := fun x => ({ m0 with err := x } : Ms)) h
    subst e
    exact ⟨⟨y, q1, q2⟩, rfl⟩
  | 6, h =>
    obtain ⟨x, y, e, q1, q2, q3⟩ := mapD_sound good_T (bs := bs) (rest := rest) (z := m1) (k := fun x => ({ m0 with label := x } : Ms)) h
    subst e
    exact ⟨⟨y, q1, q2⟩, rfl⟩
  | 7, h =>
    obtain ⟨x, y, e, q1, q2, q3⟩ := mapD_sound good_T (bs := bs) (rest := rest) (z := m1) (k := fun x => ({ m0 with value := x } : Ms)) h
    subst e
    exact ⟨⟨y, q1, q2⟩, rfl⟩
  | 8, h =>
    obtain ⟨x, y, e, q1, q2, q3⟩ := mapD_sound good_G (bs := bs) (rest := rest) (z := m1) (k := fun x => ({ m0 with sg := x } : Ms)) h
    subst e
    exact ⟨⟨y, q1, q2⟩, rfl⟩
  | 9, h =>
    obtain ⟨x, y, e, q1, q2, q3⟩ := mapD_sound good_Tr (bs := bs) (rest := rest) (z := m1) (k := fun x => ({ m0 with growth := x } : Ms)) h
    subst e
    exact ⟨⟨y, q1, q2⟩, rfl⟩
  | 10, h =>
    obtain ⟨x, y, e, q1, q2, q3⟩ := mapD_sound good_Tr (bs := bs) (rest := rest) (z := m1) (k := fun x => ({ m0 with place := x } : Ms)) h
    subst e
    exact ⟨⟨y, q1, q2⟩, rfl⟩
  | 11, h =>
    obtain ⟨x, y, e, q1, q2, q3⟩ := mapD_sound good_H (bs := bs) (rest := rest) (z := m1) (k := fun x => ({ m0 with tree := x } : Ms)) h
    subst e
    exact ⟨⟨y, q1, q2⟩, rfl⟩
  | 12, h =>
    obtain ⟨x, y, e, q1, q2, q3⟩ := mapD_sound good_Pr (bs := bs) (rest := rest) (z := m1) (k := fun x => ({ m0 with proof := x } : Ms)) h
    subst e
    refine ⟨⟨y, q1, q2⟩, ?_⟩
    show ({ m0 with proof := x } : Ms) = { m0 with proof := barePr x }
    rw [q3]
  | 13, h =>
    obtain ⟨x, y, e, q1, q2, q3⟩ := mapD_sound good_LV (bs := bs) (rest := rest) (z := m1) (k := fun x => ({ m0 with chain := x } : Ms)) h
    subst e
    exact ⟨⟨y, q1, q2⟩, rfl⟩
  | 14, h =>
    obtain ⟨x, y, e, q1, q2, q3⟩ := mapD_sound good_LR (bs := bs) (rest := rest) (z := m1) (k := fun x => ({ m0 with rows := x } : Ms)) h
    subst e
    refine ⟨⟨y, q1, q2⟩, ?_⟩
    show ({ m0 with rows := x } : Ms) = { m0 with rows := x.map bareRw }
    rw [q3]
  | 15, h =>
    obtain ⟨x, y, e, q1, q2, q3⟩ := mapD_sound good_LW (bs := bs) (rest := rest) (z := m1) (k := fun x => ({ m0 with news := x } : Ms)) h
    subst e
    exact ⟨⟨y, q1, q2⟩, rfl⟩
  | 16, h =>
    obtain ⟨x, y, e, q1, q2, q3⟩ := mapD_sound good_LH (bs := bs) (rest := rest) (z := m1) (k := fun x => ({ m0 with trees := x } : Ms)) h
    subst e
    exact ⟨⟨y, q1, q2⟩, rfl⟩
  | n + 17, h =>
    have h : (m0, bs, false) = (m1, rest, false) := h
    cases h
    exact ⟨⟨[], rfl, rfl⟩, rfl⟩
theorem decF_fails (m0 : Ms) (i : Nat) (bs : Bytes) : (decF m0 i bs true).2.2 = true := by
  match i with
  | 0 => exact mapD_fails good_N (k := fun x => ({ m0 with src := x } : Ms)) bs
  | 1 => exact mapD_fails good_N (k := fun x => ({ m0 with dst := x } : Ms)) bs
  | 2 => exact mapD_fails good_N (k := fun x => ({ m0 with seq := x } : Ms)) bs
  | 3 => exact mapD_fails good_N (k := fun x => ({ m0 with epoch := x } : Ms)) bs
  | 4 => exact mapD_fails good_N (k := fun x => ({ m0 with known := x } : Ms)) bs
  | 5 => exact mapD_fails good_E (k := fun x => ({ m0 with err := x } : Ms)) bs
  | 6 => exact mapD_fails good_T (k := fun x => ({ m0 with label := x } : Ms)) bs
  | 7 => exact mapD_fails good_T (k := fun x => ({ m0 with value := x } : Ms)) bs
  | 8 => exact mapD_fails good_G (k := fun x => ({ m0 with sg := x } : Ms)) bs
  | 9 => exact mapD_fails good_Tr (k := fun x => ({ m0 with growth := x } : Ms)) bs
  | 10 => exact mapD_fails good_Tr (k := fun x => ({ m0 with place := x } : Ms)) bs
  | 11 => exact mapD_fails good_H (k := fun x => ({ m0 with tree := x } : Ms)) bs
  | 12 => exact mapD_fails good_Pr (k := fun x => ({ m0 with proof := x } : Ms)) bs
  | 13 => exact mapD_fails good_LV (k := fun x => ({ m0 with chain := x } : Ms)) bs
  | 14 => exact mapD_fails good_LR (k := fun x => ({ m0 with rows := x } : Ms)) bs
  | 15 => exact mapD_fails good_LW (k := fun x => ({ m0 with news := x } : Ms)) bs
  | 16 => exact mapD_fails good_LH (k := fun x => ({ m0 with trees := x } : Ms)) bs
  | n + 17 => rfl
theorem setF_kind (i : Nat) (m0 m : Ms) : (setF i m0 m).kind = m0.kind := by unfold setF; split <;> rfl
theorem setF_err {i : Nat} (m0 m : Ms) (h : i ≠ 5) : (setF i m0 m).err = m0.err := by
  match i, h with
  | 0, _ => rfl | 1, _ => rfl | 2, _ => rfl | 3, _ => rfl | 4, _ => rfl | 5, h => exact absurd rfl h | 6, _ => rfl | 7, _ => rfl | 8, _ => rfl | 9, _ => rfl | 10, _ => rfl | 11, _ => rfl | 12, _ => rfl | 13, _ => rfl | 14, _ => rfl | 15, _ => rfl | 16, _ => rfl | n + 17, _ => rfl
theorem setF_enc {i j : Nat} (m0 m : Ms) (h : i ≠ j) : encF (setF i m0 m) j = encF m0 j := by
  match i, h with
  | 0, h => match j, h with | 0, h => exact absurd rfl h | 1, _ => rfl | 2, _ => rfl | 3, _ => rfl | 4, _ => rfl | 5, _ => rfl | 6, _ => rfl | 7, _ => rfl | 8, _ => rfl | 9, _ => rfl | 10, _ => rfl | 11, _ => rfl | 12, _ => rfl | 13, _ => rfl | 14, _ => rfl | 15, _ => rfl | 16, _ => rfl | n + 17, _ => rfl
  | 1, h => match j, h with | 0, _ => rfl | 1, h => exact absurd rfl h | 2, _ => rfl | 3, _ => rfl | 4, _ => rfl | 5, _ => rfl | 6, _ => rfl | 7, _ => rfl | 8, _ => rfl | 9, _ => rfl | 10, _ => rfl | 11, _ => rfl | 12, _ => rfl | 13, _ => rfl | 14, _ => rfl | 15, _ => rfl | 16, _ => rfl | n + 17, _ => rfl
  | 2, h => match j, h with | 0, _ => rfl | 1, _ => rfl | 2, h => exact absurd rfl h | 3, _ => rfl | 4, _ => rfl | 5, _ => rfl | 6, _ => rfl | 7, _ => rfl | 8, _ => rfl | 9, _ => rfl | 10, _ => rfl | 11, _ => rfl | 12, _ => rfl | 13, _ => rfl | 14, _ => rfl | 15, _ => rfl | 16, _ => rfl | n + 17, _ => rfl
  | 3, h => match j, h with | 0, _ => rfl | 1, _ => rfl | 2, _ => rfl | 3, h => exact absurd rfl h | 4, _ => rfl | 5, _ => rfl | 6, _ => rfl | 7, _ => rfl | 8, _ => rfl | 9, _ => rfl | 10, _ => rfl | 11, _ => rfl | 12, _ => rfl | 13, _ => rfl | 14, _ => rfl | 15, _ => rfl | 16, _ => rfl | n + 17, _ => rfl
  | 4, h => match j, h with | 0, _ => rfl | 1, _ => rfl | 2, _ => rfl | 3, _ => rfl | 4, h => exact absurd rfl h | 5, _ => rfl | 6, _ => rfl | 7, _ => rfl | 8, _ => rfl | 9, _ => rfl | 10, _ => rfl | 11, _ => rfl | 12, _ => rfl | 13, _ => rfl | 14, _ => rfl | 15, _ => rfl | 16, _ => rfl | n + 17, _ => rfl
  | 5, h => match j, h with | 0, _ => rfl | 1, _ => rfl | 2, _ => rfl | 3, _ => rfl | 4, _ => rfl | 5, h => exact absurd rfl h | 6, _ => rfl | 7, _ => rfl | 8, _ => rfl | 9, _ => rfl | 10, _ => rfl | 11, _ => rfl | 12, _ => rfl | 13, _ => rfl | 14, _ => rfl | 15, _ => rfl | 16, _ => rfl | n + 17, _ => rfl
  | 6, h => match j, h with | 0, _ => rfl | 1, _ => rfl | 2, _ => rfl | 3, _ => rfl | 4, _ => rfl | 5, _ => rfl | 6, h => exact absurd rfl h | 7, _ => rfl | 8, _ => rfl | 9, _ => rfl | 10, _ => rfl | 11, _ => rfl | 12, _ => rfl | 13, _ => rfl | 14, _ => rfl | 15, _ => rfl | 16, _ => rfl | n + 17, _ => rfl
  | 7, h => match j, h with | 0, _ => rfl | 1, _ => rfl | 2, _ => rfl | 3, _ => rfl | 4, _ => rfl | 5, _ => rfl | 6, _ => rfl | 7, h => exact absurd rfl h | 8, _ => rfl | 9, _ => rfl | 10, _ => rfl | 11, _ => rfl | 12, _ => rfl | 13, _ => rfl | 14, _ => rfl | 15, _ => rfl | 16, _ => rfl | n + 17, _ => rfl
  | 8, h => match j, h with | 0, _ => rfl | 1, _ => rfl | 2, _ => rfl | 3, _ => rfl | 4, _ => rfl | 5, _ => rfl | 6, _ => rfl | 7, _ => rfl | 8, h => exact absurd rfl h | 9, _ => rfl | 10, _ => rfl | 11, _ => rfl | 12, _ => rfl | 13, _ => rfl | 14, _ => rfl | 15, _ => rfl | 16, _ => rfl | n + 17, _ => rfl
  | 9, h => match j, h with | 0, _ => rfl | 1, _ => rfl | 2, _ => rfl | 3, _ => rfl | 4, _ => rfl | 5, _ => rfl | 6, _ => rfl | 7, _ => rfl | 8, _ => rfl | 9, h => exact absurd rfl h | 10, _ => rfl | 11, _ => rfl | 12, _ => rfl | 13, _ => rfl | 14, _ => rfl | 15, _ => rfl | 16, _ => rfl | n + 17, _ => rfl
  | 10, h => match j, h with | 0, _ => rfl | 1, _ => rfl | 2, _ => rfl | 3, _ => rfl | 4, _ => rfl | 5, _ => rfl | 6, _ => rfl | 7, _ => rfl | 8, _ => rfl | 9, _ => rfl | 10, h => exact absurd rfl h | 11, _ => rfl | 12, _ => rfl | 13, _ => rfl | 14, _ => rfl | 15, _ => rfl | 16, _ => rfl | n + 17, _ => rfl
  | 11, h => match j, h with | 0, _ => rfl | 1, _ => rfl | 2, _ => rfl | 3, _ => rfl | 4, _ => rfl | 5, _ => rfl | 6, _ => rfl | 7, _ => rfl | 8, _ => rfl | 9, _ => rfl | 10, _ => rfl | 11, h => exact absurd rfl h | 12, _ => rfl | 13, _ => rfl | 14, _ => rfl | 15, _ => rfl | 16, _ => rfl | n + 17, _ => rfl
  | 12, h => match j, h with | 0, _ => rfl | 1, _ => rfl | 2, _ => rfl | 3, _ => rfl | 4, _ => rfl | 5, _ => rfl | 6, _ => rfl | 7, _ => rfl | 8, _ => rfl | 9, _ => rfl | 10, _ => rfl | 11, _ => rfl | 12, h => exact absurd rfl h | 13, _ => rfl | 14, _ => rfl | 15, _ => rfl | 16, _ => rfl | n + 17, _ => rfl
  | 13, h => match j, h with | 0, _ => rfl | 1, _ => rfl | 2, _ => rfl | 3, _ => rfl | 4, _ => rfl | 5, _ => rfl | 6, _ => rfl | 7, _ => rfl | 8, _ => rfl | 9, _ => rfl | 10, _ => rfl | 11, _ => rfl | 12, _ => rfl | 13, h => exact absurd rfl h | 14, _ => rfl | 15, _ => rfl | 16, _ => rfl | n + 17, _ => rfl
  | 14, h => match j, h with | 0, _ => rfl | 1, _ => rfl | 2, _ => rfl | 3, _ => rfl | 4, _ => rfl | 5, _ => rfl | 6, _ => rfl | 7, _ => rfl | 8, _ => rfl | 9, _ => rfl | 10, _ => rfl | 11, _ => rfl | 12, _ => rfl | 13, _ => rfl | 14, h => exact absurd rfl h | 15, _ => rfl | 16, _ => rfl | n + 17, _ => rfl
  | 15, h => match j, h with | 0, _ => rfl | 1, _ => rfl | 2, _ => rfl | 3, _ => rfl | 4, _ => rfl | 5, _ => rfl | 6, _ => rfl | 7, _ => rfl | 8, _ => rfl | 9, _ => rfl | 10, _ => rfl | 11, _ => rfl | 12, _ => rfl | 13, _ => rfl | 14, _ => rfl | 15, h => exact absurd rfl h | 16, _ => rfl | n + 17, _ => rfl
  | 16, h => match j, h with | 0, _ => rfl | 1, _ => rfl | 2, _ => rfl | 3, _ => rfl | 4, _ => rfl | 5, _ => rfl | 6, _ => rfl | 7, _ => rfl | 8, _ => rfl | 9, _ => rfl | 10, _ => rfl | 11, _ => rfl | 12, _ => rfl | 13, _ => rfl | 14, _ => rfl | 15, _ => rfl | 16, h => exact absurd rfl h | n + 17, _ => rfl
  | n + 17, h => rfl
theorem stops_of {m m' : Ms} {i : Nat} (h1 : m.kind = m'.kind) (h2 : i = 8 → m.err = m'.err) : stopsM m i = stopsM m' i := by
  unfold stopsM
  rw [h1]
  by_cases h : i = 8
  · rw [h2 h]
  · have : (i == 8) = false := by simpa using h
    rw [this]; rfl
def setFs : List Nat → Ms → Ms → Ms
  | [], m0, _ => m0
  | i :: is, m0, m => if stopsM m i then m0 else setFs is (setF i m0 m) m
theorem decFs_full (m : Ms) : ∀ (is : List Nat) (m0 : Ms) (y rest : Bytes), m0.kind = m.kind → (8 ∈ is → m0.err = m.err) → encFs m is = some y → decFs is m0 (y ++ rest) false = (setFs is m0 m, rest, false)
  | [], m0, y, rest, hk, he, h => by cases h; rfl
  | i :: is, m0, y, rest, hk, he, h => by
    have hs : stopsM m0 i = stopsM m i := stops_of hk fun h8 => he (by rw [h8]; exact List.mem_cons_self ..)
    unfold encFs at h
    unfold setFs decFs
    rw [hs]
    split at h
    · rename_i hc
      cases h
      rw [if_pos hc, if_pos hc]; rfl
    · rename_i hc
      rw [if_neg hc, if_neg hc]
      obtain ⟨y1, y2, q1, q2, q3⟩ := app_some h
      subst q3
      rw [List.append_assoc, decF_full m0 m i q1]
      dsimp only
      refine decFs_full m is _ y2 rest (by rw [setF_kind, hk]) (fun h8 => ?_) q2
      by_cases h5 : i = 5
      · subst h5; rfl
      · rw [setF_err _ _ h5, he (List.mem_cons_of_mem _ h8)]
theorem decFs_fails : ∀ (is : List Nat) (m0 : Ms) (bs : Bytes), (decFs is m0 bs true).2.2 = true
  | [], m0, bs => rfl
  | i :: is, m0, bs => by
    unfold decFs
    split
    · rfl
    · rw [decF_fails]
      exact decFs_fails is _ _
theorem decFs_sound : ∀ (is : List Nat) (m0 m1 : Ms) (bs rest : Bytes), is.Nodup → (8 ∈ is → 5 ∉ is) → decFs is m0 bs false = (m1, rest, false) →
    (∃ y, encFs m1 is = some y ∧ bs = y ++ rest) ∧ m1.kind = m0.kind ∧ (5 ∉ is → m1.err = m0.err) ∧ ∀ j, j ∉ is → encF m1 j = encF m0 j
  | [], m0, m1, bs, rest, _, _, h => by
    cases h
    exact ⟨⟨[], rfl, rfl⟩, rfl, fun _ => rfl, fun _ _ => rfl⟩
  | i :: is, m0, m1, bs, rest, hn, h85, h => by
    obtain ⟨hi, hn'⟩ := List.nodup_cons.1 hn
    unfold decFs at h
    split at h
    · rename_i hc
      cases h
      refine ⟨⟨[], ?_, rfl⟩, rfl, fun _ => rfl, fun _ _ => rfl⟩
      unfold encFs
      rw [if_pos hc]
    · rename_i hc
      have hf : (decF m0 i bs false).2.2 = false := by
        cases hh : (decF m0 i bs false).2.2
        · rfl
        · rw [hh] at h
          have := decFs_fails is (decF m0 i bs false).1 (decF m0 i bs false).2.1
          rw [h] at this; cases this
      rw [hf] at h
      obtain ⟨⟨y1, q1, q2⟩, q3⟩ := decF_sound m0 (decF m0 i bs false).1 i (eta3 hf)
      obtain ⟨⟨y2, r1, r2⟩, r3, r4, r5⟩ := decFs_sound is _ m1 _ rest hn' (fun h8 h5 => h85 (List.mem_cons_of_mem _ h8) (List.mem_cons_of_mem _ h5)) h
      have hk : m1.kind = m0.kind := by rw [r3, q3, setF_kind]
      have he : 5 ∉ i :: is → m1.err = m0.err := fun h5 => by
        rw [r4 (fun h => h5 (List.mem_cons_of_mem _ h)), q3, setF_err]
        intro h; subst h; exact h5 (List.mem_cons_self ..)
      refine ⟨⟨y1 ++ y2, ?_, by rw [q2, r2, List.append_assoc]⟩, hk, he, fun j hj => ?_⟩
      · have hs : stopsM m1 i = stopsM m0 i := stops_of hk fun h8 => he (h85 (by rw [h8]; exact List.mem_cons_self ..))
        unfold encFs
        rw [hs, if_neg hc, r5 i hi, q1, r1]; rfl
      · rw [r5 j (fun h => hj (List.mem_cons_of_mem _ h)), q3, setF_enc]
        intro h; subst h; exact hj (List.mem_cons_self ..)
theorem decFs_append : ∀ (is js : List Nat) (m0 : Ms) (bs : Bytes) (f : Bool), 8 ∉ is → decFs (is ++ js) m0 bs f = decFs js (decFs is m0 bs f).1 (decFs is m0 bs f).2.1 (decFs is m0 bs f).2.2
  | [], js, m0, bs, f, _ => rfl
  | i :: is, js, m0, bs, f, h => by
    have hs : stopsM m0 i = false := by
      unfold stopsM
      have : (i == 8) = false := by simp only [beq_eq_false_iff_ne]; intro e; subst e; exact h (List.mem_cons_self ..)
      rw [this]; simp
    rw [List.cons_append, decFs, decFs]
    dsimp only
    rw [hs]
    exact decFs_append is js _ _ _ fun hh => h (List.mem_cons_of_mem _ hh)
theorem encFs_append (m : Ms) : ∀ (is js : List Nat), 8 ∉ is → encFs m (is ++ js) = app (encFs m is) (encFs m js)
  | [], js, _ => by rw [encFs, nil_app]; rfl
  | i :: is, js, h => by
    have hs : stopsM m i = false := by
      unfold stopsM
      have : (i == 8) = false := by simp only [beq_eq_false_iff_ne]; intro e; subst e; exact h (List.mem_cons_self ..)
      rw [this]; simp
    rw [List.cons_append, encFs, encFs, hs, encFs_append m is js fun hh => h (List.mem_cons_of_mem _ hh), if_neg (by simp), if_neg (by simp), app_assoc]
theorem setFs_append (m : Ms) : ∀ (is js : List Nat) (m0 : Ms), 8 ∉ is → setFs (is ++ js) m0 m = setFs js (setFs is m0 m) m
  | [], js, m0, _ => rfl
  | i :: is, js, m0, h => by
    have hs : stopsM m i = false := by
      unfold stopsM
      have : (i == 8) = false := by simp only [beq_eq_false_iff_ne]; intro e; subst e; exact h (List.mem_cons_self ..)
      rw [this]; simp
    rw [List.cons_append, setFs, setFs, hs]
    exact setFs_append m is js _ fun hh => h (List.mem_cons_of_mem _ hh)
/-- A kind's fields: those ahead of Signed, with Err, and the others. -/
theorem fields_split (k : Int) : ∃ is js, fieldsK k = is ++ js ∧ 8 ∉ is ∧ 5 ∉ js ∧ (is ++ js).Nodup ∧ ((k = 4 → 5 ∈ is) ∨ 8 ∉ js) := by
  unfold fieldsK
  split
  · exact ⟨[0, 1, 2, 6, 7], [], by decide, by decide, by decide, by decide, .inr (by decide)⟩
  split
  · exact ⟨[0, 1, 2, 3, 5], [], by decide, by decide, by decide, by decide, .inr (by decide)⟩
  split
  · exact ⟨[0, 1, 2, 3, 4, 6], [], by decide, by decide, by decide, by decide, .inr (by decide)⟩
  split
  · exact ⟨[0, 1, 2, 3, 4, 5], [8, 9, 10, 11, 12, 13], by decide, by decide, by decide, by decide, .inl fun _ => by decide⟩
  split
  · exact ⟨[0, 1], [8, 14, 15], by decide, by decide, by decide, by decide, .inl fun h => by omega⟩
  split
  · exact ⟨[0, 1, 3, 4], [], by decide, by decide, by decide, by decide, .inr (by decide)⟩
  split
  · exact ⟨[0, 1], [], by decide, by decide, by decide, by decide, .inr (by decide)⟩
  split
  · exact ⟨[0, 1], [8, 15, 16], by decide, by decide, by decide, by decide, .inl fun h => by omega⟩
  · exact ⟨[], [], by decide, by decide, by decide, by decide, .inr (by decide)⟩
def bareM (m : Ms) : Ms := setFs (fieldsK m.kind) { zeroMs with kind := m.kind } m
theorem setFs_err (m : Ms) : ∀ (is : List Nat) (m0 : Ms), 8 ∉ is → (m0.err = m.err ∨ 5 ∈ is) → (setFs is m0 m).err = m.err
  | [], m0, _, h => by simpa [setFs] using h
  | i :: is, m0, h8, h => by
    have hs : stopsM m i = false := by
      unfold stopsM
      have : (i == 8) = false := by simp only [beq_eq_false_iff_ne]; intro e; subst e; exact h8 (List.mem_cons_self ..)
      rw [this]; simp
    rw [setFs, hs]
    refine setFs_err m is _ (fun hh => h8 (List.mem_cons_of_mem _ hh)) ?_
    by_cases h5 : i = 5
    · subst h5; exact .inl rfl
    · rw [setF_err _ _ h5]
      rcases h with h | h
      · exact .inl h
      · rcases List.mem_cons.1 h with h | h
        · exact absurd h.symm h5
        · exact .inr h
theorem setFs_kind (m : Ms) : ∀ (is : List Nat) (m0 : Ms), (setFs is m0 m).kind = m0.kind
  | [], m0 => rfl
  | i :: is, m0 => by
    rw [setFs]
    split
    · rfl
    · rw [setFs_kind m is, setF_kind]
theorem decM_full {m : Ms} {b rest : Bytes} (h : encM m = some b) : decM (b ++ rest) = if rest = [] then some (bareM m) else none := by
  unfold encM at h
  split at h
  · cases h
  · rename_i hk
    obtain ⟨y1, y2, q1, q2, q3⟩ := app_some h
    subst q3
    unfold encI at q1
    split at q1
    · rename_i hr
      cases q1
      have hn := numR_num (x := m.kind.toNat) (n := 1) (y2 ++ rest) (by omega)
      have hkk : ((m.kind.toNat : Nat) : Int) = m.kind := by omega
      obtain ⟨is, js, f1, f2, f3, f4, f5⟩ := fields_split m.kind
      unfold decM
      rw [List.append_assoc, hn]
      dsimp only
      rw [hkk, if_neg hk]
      have hd : decFs (fieldsK m.kind) { zeroMs with kind := m.kind } (y2 ++ rest) false = (bareM m, rest, false) := by
        unfold bareM
        rw [f1] at q2 ⊢
        rw [encFs_append m is js f2] at q2
        obtain ⟨z1, z2, r1, r2, r3⟩ := app_some q2
        subst r3
        have d1 := decFs_full m is { zeroMs with kind := m.kind } z1 (z2 ++ rest) rfl (fun h => absurd h f2) r1
        rw [decFs_append is js _ _ _ f2, setFs_append m is js _ f2, List.append_assoc, d1]
        dsimp only
        by_cases h4 : m.kind = 4
        · refine decFs_full m js _ z2 rest (setFs_kind m is _) (fun h8 => ?_) r2
          rcases f5 with f5 | f5
          · exact setFs_err m is _ f2 (.inr (f5 h4))
          · exact absurd h8 f5
        · -- no stop at all
          have hst : ∀ (js : List Nat) (m0 : Ms) (y : Bytes), m0.kind = m.kind → encFs m js = some y → decFs js m0 (y ++ rest) false = (setFs js m0 m, rest, false) := by
            intro js
            induction js with
            | nil => intro m0 y hm he; cases he; rfl
            | cons i js ih =>
              intro m0 y hm he
              have s1 : stopsM m i = false := by
                unfold stopsM
                have : (m.kind == 4) = false := by simpa using h4
                rw [this]; rfl
              have s2 : stopsM m0 i = false := by
                unfold stopsM
                have : (m0.kind == 4) = false := by rw [hm]; simpa using h4
                rw [this]; rfl
              rw [encFs, s1] at he
              obtain ⟨w1, w2, v1, v2, v3⟩ := app_some he
              subst v3
              rw [decFs, setFs, s1]
              dsimp only
              rw [s2, List.append_assoc, decF_full m0 m i v1]
              exact ih _ _ (by rw [setF_kind, hm]) v2
          exact hst js _ z2 (setFs_kind m is _) r2
      rw [hd]
      by_cases hrest : rest = []
      · subst hrest
        rw [if_pos rfl, if_pos rfl]
      · rw [if_neg hrest, if_neg (fun hh => hrest (congrArg Prod.fst hh))]
    · cases q1
theorem decM_sound {b : Bytes} {m : Ms} (h : decM b = some m) : encM m = some b ∧ bareM m = m := by
  have h1 : encM m = some b := by
    unfold decM at h
    split at h
    · cases h
    · rename_i hk
      split at h
      · rename_i hd
        have hm := Option.some.inj h
        obtain ⟨is, js, f1, f2, f3, f4, f5⟩ := fields_split (numR b false 1).1
        have hf : (numR b false 1).2.2 = false := by
          cases hh : (numR b false 1).2.2
          · rfl
          · rw [hh] at hd
            have := decFs_fails (fieldsK (numR b false 1).1) { zeroMs with kind := (numR b false 1).1 } (numR b false 1).2.1
            rw [hd] at this; cases this
        obtain ⟨w1, w2⟩ := numR_was (bs := b) (rest := (numR b false 1).2.1) (x := (numR b false 1).1) (n := 1) (eta3 hf)
        rw [hf] at hd hm
        generalize (numR b false 1).1 = k at *
        generalize (numR b false 1).2.1 = bs at *
        rw [f1, decFs_append is js _ _ _ f2] at hd hm
        have hf1 : (decFs is { zeroMs with kind := (k : Int) } bs false).2.2 = false := by
          cases hh : (decFs is { zeroMs with kind := (k : Int) } bs false).2.2
          · rfl
          · rw [hh] at hd
            have := decFs_fails js (decFs is { zeroMs with kind := (k : Int) } bs false).1 (decFs is { zeroMs with kind := (k : Int) } bs false).2.1
            rw [hd] at this; cases this
        rw [hf1] at hd hm
        obtain ⟨n1, n2, n3⟩ := List.nodup_append.1 f4
        obtain ⟨⟨y1, a1, a2⟩, a3, a4, a5⟩ := decFs_sound is _ _ bs _ n1 (fun h => absurd h f2) (eta3 hf1)
        obtain ⟨⟨y2, b1, b2⟩, b3, b4, b5⟩ := decFs_sound js _ m _ [] n2 (fun _ => f3) (by rw [← hm]; exact eta2 hd)
        have hkm : m.kind = k := by rw [b3, a3]
        -- the first fields are still those that were taken
        have keep : ∀ (l : List Nat) (m1 : Ms), (∀ j ∈ l, j ∉ js) → 8 ∉ l → m1.kind = m.kind → (∀ j, j ∉ js → encF m j = encF m1 j) → encFs m l = encFs m1 l := by
          intro l
          induction l with
          | nil => intros; rfl
          | cons i l ih =>
            intro m1 hl h8 hk1 he
            have hs : ∀ x : Ms, stopsM x i = false := fun x => by
              unfold stopsM
              have : (i == 8) = false := by simp only [beq_eq_false_iff_ne]; intro e; subst e; exact h8 (List.mem_cons_self ..)
              rw [this]; simp
            rw [encFs, encFs, hs, hs, he i (hl i (List.mem_cons_self ..)), ih m1 (fun j hj => hl j (List.mem_cons_of_mem _ hj)) (fun hh => h8 (List.mem_cons_of_mem _ hh)) hk1 he]
        have hk1 := keep is (decFs is { zeroMs with kind := (k : Int) } bs false).1 (fun j hj hj' => n3 j hj j hj' rfl) f2 (by rw [b3]) b5
        unfold encM
        rw [hkm, if_neg hk, f1, encFs_append m is js f2, hk1, a1, b1]
        unfold encI
        rw [if_pos (by omega), Int.toNat_natCast]
        show some (numB k 1 ++ (y1 ++ y2)) = some b
        rw [w1, a2, b2, List.append_nil]
      · cases h
  refine ⟨h1, ?_⟩
  have := decM_full (rest := []) h1
  rw [List.append_nil, h, if_pos rfl] at this
  exact (Option.some.inj this).symm
end Go.Proofs.YthlmiijlhiiccaaGreat
