/- Bytes are copied, bytes are held against each other. -/
import Derived.Test.YtkeggnfffnodmaaFc
import Derived.Test.YtkeggnfffnodmaaSq
set_option linter.unusedVariables false
namespace Go.Proofs.Ytkeggnfffnodmaa
open Go Go.Vc Go.Proofs
abbrev ptr (b : Nat) : Value := .pointer (some (Addr.mk b 0 none))
abbrev unit : Value := .tuple #[]
theorem clone_ok {h : Heap} {p : Option Addr} {l c : Nat} {xs : List UInt8} (hx : Bs h p l xs) (hl : l ≤ 70368744177664) :
    CallsH Try.prog n_slices_Clone_byte_byte #[.slice p l c] h fun v h' => ∃ p' l' c', v = .slice p' l' c' ∧ New h h' [own 1 p' l' c' (bcs xs)] := by
  refine C_slices_Clone_byte_byte p l c ?_
  unfold F_slices_Clone_byte_byte
  cases p with
  | none =>
    refine br_yes rfl ⟨none, 0, 0, rfl, ?_⟩
    have hz := hx.2.2
    simp [src] at hz
    subst hz
    exact ((St.start h).nil 1).new ⟨owns_own, trivial⟩
  | some a =>
    refine br_no rfl ((St.start h).newBlk fun b h1 hb s e => ?_)
    have s0 : St h h1 [own 1 (some (Addr.mk b 0 none)) 0 0 []] := s.impl fun m q => ⟨rfl, Nat.le_refl _, Nat.zero_le _, .inr ⟨b, 0, [], rfl, rfl, q⟩⟩
    refine s0.append (hx.2.ext e) (bvs_one xs) rfl (by omega) (by unfold maxLen; omega) fun p' c' h' s _ => ?_
    refine ⟨p', 0 + l, c', rfl, s.new ⟨owns_own, trivial⟩⟩
theorem same_ok {h : Heap} {p q : Option Addr} {l m c d : Nat} {xs ys : List UInt8} (hx : Bs h p l xs) (hy : Bs h q m ys) (hl : l ≤ 70368744177664) :
    CallsH Try.prog n_ref01_Same #[.slice p l c, .slice q m d] h fun v h' => v = .bool (decide (xs = ys)) ∧ h' = h := by
  refine C_ref01_Same p l c q m d ?_
  unfold F_ref01_Same
  have hxl := hx.1
  have hyl := hy.1
  rw [br_bne]
  refine ⟨fun hne => ⟨by rw [decide_eq_false]; intro e; subst e; omega, by trivial⟩, fun he => ?_⟩
  refine ⟨fun n h' => ∃ i : Nat, n = i ∧ i ≤ l ∧ h' = h ∧ xs.take i = ys.take i, fun n _ => l - n.toNat, ⟨0, rfl, Nat.zero_le _, rfl, by simp⟩, ?_⟩
  rintro n h' ⟨i, rfl, hi, rfl, ht⟩
  rw [br_decide]
  refine ⟨fun hlt => ⟨by omega, hlt, ?_⟩, fun hge => ?_⟩
  · have hi1 : i < xs.length := by omega
    have hi2 : i < ys.length := by omega
    obtain ⟨a, rfl, hc⟩ := hx.cell hi1
    obtain ⟨a', rfl, hc'⟩ := hy.cell hi2
    simp only [deref_some, Nat.mul_one, Int.toNat_natCast]
    refine ⟨_, hc, by omega, by omega, _, hc', ?_⟩
    rw [br_bne]
    refine ⟨fun hne => ⟨?_, by trivial⟩, fun heq => ⟨⟨i + 1, by rw [wrap_i64 (by omega) (by omega)]; omega, by omega, by trivial, ?_⟩, by rw [wrap_i64 (by omega) (by omega)]; omega⟩⟩
    · rw [decide_eq_false]
      intro e
      subst e
      exact hne rfl
    · rw [List.take_succ_eq_append_getElem hi1, List.take_succ_eq_append_getElem hi2, ht]
      congr 2
      exact UInt8.toNat_inj.1 (by omega)
  · refine ⟨?_, rfl⟩
    have : i = l := by omega
    subst this
    rw [List.take_of_length_le (by omega), List.take_of_length_le (by omega)] at ht
    simp [ht]

end Go.Proofs.Ytkeggnfffnodmaa
