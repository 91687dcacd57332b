/- Layer 7: DeviceWhole. -/
import Derived.Test.Ytkeggnfffnodmaa7c
set_option linter.unusedVariables false
set_option maxRecDepth 100000
namespace Go.Proofs.Ytkeggnfffnodmaa
open Go Go.Vc Go.Proofs

theorem mixed_whole {was b : List UInt8} (h1 : was.length = 128) (h2 : b.length = 128) : mixed was b 128 = b := by
  unfold mixed
  have : (min (max (128 : Int) 0) 128).toNat = 128 := rfl
  rw [this, List.take_of_length_le (by omega), List.drop_of_length_le (by omega), List.append_nil]
theorem mixed_none {was b : List UInt8} : mixed was b 0 = was := by
  unfold mixed
  have : (min (max (0 : Int) 0) 128).toNat = 0 := rfl
  rw [this, List.take_zero, List.drop_zero, List.nil_append]
theorem set_getD (L : List (List UInt8)) (i : Nat) : L.set i (L.getD i []) = L := by
  apply List.ext_getElem?
  intro j
  rw [List.getElem?_set]
  split
  · rename_i h
    subst h
    rw [List.getD_eq_getElem?_getD]
    split
    · rename_i h; simp [h]
    · rename_i h; rw [List.getElem?_eq_none (by omega)]
  · rfl
theorem restL_none : ∀ (Q : List (Nat × List UInt8)) (L : List (List UInt8)), restL L Q [] = L
  | [], L => rfl
  | w :: Q, L => by rw [restL, mixed_none, set_getD, restL_none Q]
theorem restL_whole {n : Nat} : ∀ (Q : List (Nat × List UInt8)) (L : List (List UInt8)), L.length = n → (∀ p ∈ L, p.length = 128) → (∀ w ∈ Q, w.1 < n ∧ w.2.length = 128) → restL L Q (List.replicate Q.length 128) = applyQ L Q
  | [], L, _, _, _ => rfl
  | w :: Q, L, h1, h2, h3 => by
    have hw := h3 w (List.mem_cons_self ..)
    have hg : (L.getD w.1 []).length = 128 := h2 _ (by rw [List.getD_eq_getElem?_getD, List.getElem?_eq_getElem (by omega)]; exact List.getElem_mem _)
    rw [List.length_cons, List.replicate_succ, restL, mixed_whole hg hw.2, restL_whole Q (L.set w.1 w.2) (by simpa using h1) (fun p hp => by
      rcases List.mem_or_eq_of_mem_set hp with h | h
      · exact h2 p h
      · rw [h]; exact hw.2) fun x hx => h3 x (List.mem_cons_of_mem _ hx)]
    rfl
/-- The last byte of a page. -/
def lastB (L : List (List UInt8)) (i : Nat) : UInt8 := (L.getD i []).getD 127 0
theorem lastB_set {L : List (List UInt8)} {i j : Nat} {x : List UInt8} (hi : i < L.length) : lastB (L.set i x) j = if i = j then x.getD 127 0 else lastB L j := by
  have e : (L.set i x).getD j [] = if i = j then x else L.getD j [] := by
    rw [List.getD_eq_getElem?_getD, List.getElem?_set]
    split
    · rename_i h
      subst h
      simp [hi]
    · rw [← List.getD_eq_getElem?_getD]
  unfold lastB
  rw [e]
  split <;> rfl
theorem wrap_byte (x : Int) : ∃ y : UInt8, IntKind.wrap .u8 x = (y.toNat : Int) := ⟨UInt8.ofNat (x % 256).toNat, by
  rw [wrap_u8, UInt8.toNat_ofNat']
  omega⟩
/-- A device that lasts nothing, but to which writes wait. -/
def WD (Q : List (Nat × List UInt8)) : Dev := ⟨List.replicate 12 (List.replicate 128 0), Q, -1, false⟩
theorem WD_wf {Q : List (Nat × List UInt8)} (h : ∀ w ∈ Q, w.1 < 12 ∧ w.2.length = 128) : (WD Q).Wf 12 := ⟨by simp [WD], by omega, fun p hp => by simp [WD] at hp; simp [hp], h, by show (-1 : Int) ≤ -1; omega, by show (-1 : Int) ≤ _; omega⟩
theorem WD_write {Q : List (Nat × List UInt8)} (h : ∀ w ∈ Q, w.1 < 12 ∧ w.2.length = 128) {i : Nat} {xs : List UInt8} (hi : i < 12) (hx : xs.length = 128) : writeD (WD Q) i xs = (0, WD (Q ++ [(i, xs)])) := by
  have ho : opD (WD Q) = WD Q := opD_neg (by show (-1 : Int) < 0; omega)
  rw [writeD_zero (WD_wf h) rfl hi hx (by rw [ho]; rfl), ho]
  rfl
end Go.Proofs.Ytkeggnfffnodmaa
