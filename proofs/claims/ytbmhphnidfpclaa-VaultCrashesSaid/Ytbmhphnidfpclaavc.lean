/- Layer 10: a vault's areas, wherever the power goes (no program in sight). -/
import Derived.Test.Ytbmhphnidfpclaavb
set_option linter.unusedVariables false
set_option maxRecDepth 100000
namespace Go.Proofs.Ytbmhphnidfpclaa
open Go Go.Vc Go.Proofs
/-- Written pages have small generations. -/
def GW (L : Lg) (G : Nat) (W : List Page) (g : Nat) : Prop := G < 256 ∧ G ≤ g ∧ (W = [] ∨ (L.gen < 256 ∧ L.gen ≤ g))
theorem parts_zero {R : List (List UInt8)} (h : partsS R = 0) : R = [] := by
  cases R with
  | nil => rfl
  | cons b R => rw [partsS] at h; have := parts_pos b.length; omega
section
variable {D : Dev} {L : Lg} {n least G s f g : Nat} {B W : List Page} {x R : List (List UInt8)}
theorem Core.regNil {start count : Nat} (c : Core D n start count s f B []) (len : B.length = count) : reg D start count = B := by
  have hl := reg_length (D := D) c.wf c.fit
  apply List.ext_getElem (by rw [hl, len])
  intro j h1 h2
  have hj : j < count := by omega
  have hs := c.seen hj
  have hn : ¬(s ≤ j ∧ j < s + ([] : List Page).length) := by simp only [List.length_nil]; omega
  rw [if_neg hn] at hs
  have h3 : (reg D start count).getD j [] = D.seen.getD (start + j) [] := by
    rw [reg, List.getD_eq_getElem?_getD, List.getD_eq_getElem?_getD, List.getElem?_take, if_pos hj, List.getElem?_drop]
  rw [hs, List.getD_eq_getElem?_getD, List.getD_eq_getElem?_getD, List.getElem?_eq_getElem h1, List.getElem?_eq_getElem h2] at h3
  exact h3
theorem Ep.nil_of (e : Ep D L n least G B [] s f x R) : R = [] := by
  obtain ⟨part, hW, _⟩ := e.pages
  have := congrArg List.length hW
  rw [List.length_append, recsP_length] at this
  exact parts_zero (by simp at this; omega)
/-- What lasts of a log's pages, when nothing waits. -/
theorem Ep.tameNow (e : Ep D L n least G B W s f x R) (hq : D.queue = []) (gw : GW L G W g) (hc : L.count < 255) : ∃ G', G' < 256 ∧ G' ≤ g ∧ ∀ j, j < L.count → Tame G' j (D.lasts.getD (L.start + j) []) := by
  have hroom := e.core.room
  have hfl := e.core.fl
  rcases gw.2.2 with h | ⟨h, hg⟩
  · subst h
    refine ⟨G, gw.1, gw.2.1, fun j hj => ?_⟩
    have hl := e.core.lasts j hj
    have hf : f = 0 := by simpa using hfl
    rw [if_neg (by omega)] at hl
    rw [hl]; exact e.tame j hj
  · refine ⟨L.gen, h, hg, fun j hj => ?_⟩
    have hl := e.core.lasts j hj
    by_cases hs : s ≤ j ∧ j < s + f
    · rw [if_pos hs] at hl
      obtain ⟨kd, c, hc', e'⟩ := e.page (j := j - s) (by omega)
      rw [hl, e', show s + (j - s) + 1 = j + 1 by omega]
      exact tame_page h (by omega) hc'
    · rw [if_neg hs] at hl
      rw [hl]; exact (e.tame j hj).mono (Nat.le_of_lt e.gen)
theorem Ep.crash2 (e : Ep D L n least G B W s f x R) (gw : GW L G W g) (hc : L.count < 255) (list : List Int) :
    ∃ m, m ≤ R.length ∧ (scanD (restartD D list) L.start L.count least).1 = x ++ R.take m ∧ (∀ q, q ≤ R.length → partsS (R.take q) ≤ f → q ≤ m) ∧
      (restartD D list).Wf n ∧ ∃ G', G' < 256 ∧ G' ≤ g ∧ ∀ j, j < L.count → Tame G' j ((restartD D list).lasts.getD (L.start + j) []) := by
  rcases gw.2.2 with h | ⟨h, hg⟩
  · subst h
    have hR := e.nil_of
    subst hR
    have wr := restartD_wf e.core.wf list
    have hfl : f = 0 := by simpa using e.core.fl
    have hlast : ∀ j, j < L.count → (restartD D list).lasts.getD (L.start + j) [] = B.getD j [] := fun j hj => by
      rcases e.core.restart list hj with ⟨h1, _⟩ | ⟨h2, _⟩
      · rw [h1, if_neg (by omega)]
      · simp only [List.length_nil] at h2; omega
    have e' : Core (restartD D list) n L.start L.count s 0 B [] := by
      refine ⟨wr, e.core.fit, Nat.le_refl _, e.core.room, fun j hj => ?_, fun j hj => ?_⟩
      · rw [hlast j hj, if_neg (by omega)]
      · rw [if_neg (by simp only [List.length_nil]; omega)]; rfl
    refine ⟨0, Nat.le_refl _, ?_, fun q hq _ => by simpa using hq, wr, G, gw.1, gw.2.1, fun j hj => by rw [hlast j hj]; exact e.tame j hj⟩
    rw [scanD_reg, e'.regNil e.len, e.base]; simp
  · obtain ⟨m, h1, h2, h3, h4, h5, h6, h7⟩ := e.crash h hc list
    exact ⟨m, h1, h2, h3, h4, L.gen, h, hg, h7⟩
end
end Go.Proofs.Ytbmhphnidfpclaa
