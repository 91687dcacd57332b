/- Slices of bytes that are read; numbers in bytes. -/
import Derived.Test.Ytkeggnfffnodmaa1c
set_option linter.unusedVariables false
namespace Go.Proofs.Ytkeggnfffnodmaa
open Go Go.Vc Go.Proofs
theorem Bs.take {h : Heap} {p : Option Addr} {l n : Nat} {bs : List UInt8} (hb : Bs h p l bs) (hn : n ≤ l) : Bs h p n (bs.take n) := by
  have hl := hb.1
  refine ⟨by simp; omega, by simp; omega, ?_⟩
  by_cases hz : n = 0
  · subst hz; simp [src_zero]
  · obtain ⟨a, rfl, _⟩ := hb.cell (i := 0) (by omega)
    have := row_of (h := h) (a := a) ((bs.take n).map bv) fun j hj => by
      have hj' : j < n := by simp at hj; omega
      obtain ⟨a', e, hc⟩ := hb.cell (i := j) (by omega)
      cases e
      rw [hc]
      simp
    simp only [List.length_map, List.length_take, Nat.min_eq_left (show n ≤ bs.length by omega)] at this
    simpa [src] using this
theorem Bs.drop {h : Heap} {p : Option Addr} {l c n : Nat} {bs : List UInt8} (hb : Bs h p l bs) (hn : n ≤ l) : Bs h (if c = n then p else p.map fun a => a.add (n * 1)) (l - n) (bs.drop n) ∨ c = n := by
  have hl := hb.1
  by_cases hcn : c = n
  · exact .inr hcn
  refine .inl ?_
  rw [if_neg hcn]
  refine ⟨by simp; omega, by simp; omega, ?_⟩
  by_cases hz : l - n = 0
  · have : bs.drop n = [] := List.drop_of_length_le (by omega)
    rw [hz, this]; simp [src_zero]
  · obtain ⟨a, rfl, h0⟩ := hb.cell (i := 0) (by omega)
    have hsp : a.spot = none := by
      have := spot_none h0
      simpa [Addr.add] using this
    have := row_of (h := h) (a := a.add n) ((bs.drop n).map bv) fun j hj => by
      have hj' : n + j < bs.length := by simp at hj; omega
      obtain ⟨a', e, hc⟩ := hb.cell (i := n + j) hj'
      cases e
      rw [add_add _ _ _ hsp, hc]
      simp
    simp only [List.length_map, List.length_drop, hl] at this
    simpa [src, Nat.mul_one] using this
theorem Bs.rest {h : Heap} {p : Option Addr} {l c n : Nat} {bs : List UInt8} (hb : Bs h p l bs) (hn : n ≤ l) (hc : l ≤ c) : Bs h (if c = n then p else p.map fun a => a.add (n * 1)) (l - n) (bs.drop n) := by
  rcases Bs.drop (c := c) hb hn with h1 | h1
  · exact h1
  · have hl := hb.1
    have e1 : l - n = 0 := by omega
    have e2 : bs.drop n = [] := List.drop_of_length_le (by omega)
    rw [e1, e2]
    exact ⟨rfl, by simp, by simp [src_zero]⟩
theorem sliceP_to {p : Option Addr} {c n : Nat} {K : Option Addr → Nat → Nat → Prop} (hn : n ≤ c) (hk : K p n c) : sliceP 1 p 0 (n : Int) (c : Int) c K := by
  refine ⟨by omega, by omega, by omega, by omega, ?_⟩
  simp only [Int.toNat_natCast, Int.toNat_zero, Nat.sub_zero]
  rw [map_add0]
  exact hk
theorem sliceP_from {p : Option Addr} {l c n : Nat} {K : Option Addr → Nat → Nat → Prop} (hn : n ≤ l) (hc : l ≤ c) (hk : K (if c = n then p else p.map fun a => a.add (n * 1)) (l - n) (c - n)) : sliceP 1 p (n : Int) (l : Int) (c : Int) c K := by
  refine ⟨by omega, by omega, by omega, by omega, ?_⟩
  simp only [Int.toNat_natCast]
  exact hk
theorem sliceP_mid {p : Option Addr} {l c n m : Nat} {K : Option Addr → Nat → Nat → Prop} (hn : n ≤ m) (hm : m ≤ l) (hc : l ≤ c) (hk : K (if c = n then p else p.map fun a => a.add (n * 1)) (m - n) (c - n)) : sliceP 1 p (n : Int) (m : Int) (c : Int) c K := by
  refine ⟨by omega, by omega, by omega, by omega, ?_⟩
  simp only [Int.toNat_natCast]
  exact hk
theorem Bs.mid {h : Heap} {p : Option Addr} {l c n m : Nat} {bs : List UInt8} (hb : Bs h p l bs) (hn : n ≤ m) (hm : m ≤ l) (hc : l ≤ c) : Bs h (if c = n then p else p.map fun a => a.add (n * 1)) (m - n) ((bs.drop n).take (m - n)) :=
  Bs.take (Bs.rest hb (by omega) hc) (by omega)

end Go.Proofs.Ytkeggnfffnodmaa
