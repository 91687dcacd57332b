/- Lists of bytes that are read alone: what slices of slices lead to. -/
import Derived.Test.YtkeggnfffnodmaaSr
set_option linter.unusedVariables false
namespace Go.Vc
open Go
abbrev Sl := Option Addr × Nat × Nat
def Sl.v (s : Sl) : Value := .slice s.1 s.2.1 s.2.2
/-- Slices, each with the bytes it leads to. -/
def rds (S : List (Sl × List UInt8)) : HP := fun m => ∀ e ∈ S, e.1.2.1 ≤ e.1.2.2 ∧ rdo 1 e.1.1 e.1.2.1 (bcs e.2) m
theorem rdo_le {sz : Nat} {p : Option Addr} {l : Nat} {vs : List Value} {m n : Res} (q : rdo sz p l vs m) (a : rle m n) : rdo sz p l vs n := ⟨q.1, q.2.imp id fun ⟨b, o, e, p⟩ => ⟨b, o, e, fun i v h => a _ _ _ (p i v h)⟩⟩
section
variable {h0 h : Heap} {F : List HP} {S T : List (Sl × List UInt8)}
theorem St.rdsNil (hs : St h0 h F) : St h0 h (rds [] :: F) := hs.add fun m e he => by cases he
theorem St.rdsSub (hs : St h0 h (rds S :: F)) (t : ∀ e ∈ T, e ∈ S) : St h0 h (rds T :: F) := hs.impl fun m q e he => q e (t e he)
theorem St.rdsOf {p : Option Addr} {l c : Nat} {xs : List UInt8} (hs : St h0 h (rdo 1 p l (bcs xs) :: F)) (hc : l ≤ c) : St h0 h (rds [((p, l, c), xs)] :: F) := hs.impl fun m q e he => by
  simp only [List.mem_singleton] at he
  subst he
  exact ⟨hc, q⟩
theorem St.rdsOwn {p : Option Addr} {l c : Nat} {xs : List UInt8} (hs : St h0 h (own 1 p l c (bcs xs) :: F)) : St h0 h (rds [((p, l, c), xs)] :: F) := St.rdsOf hs.ro hs.len.2.1
theorem St.rdsJoin (hs : St h0 h (rds S :: rds T :: F)) : St h0 h (rds (S ++ T) :: F) := hs.conseq fun m ⟨m1, m2, a1, a2, c, q, m3, m4, b1, b2, d, r, s⟩ =>
  ⟨radd m1 m3, m4, radd_le a1 (b1.trans a2), b2.trans a2, ((c.le (rle.refl _) b2).symm.add d.symm).symm, fun e he => by
    rcases List.mem_append.1 he with h | h
    · exact ⟨(q e h).1, rdo_le (q e h).2 (rle_left _ _)⟩
    · exact ⟨(r e h).1, rdo_le (r e h).2 (rle_right (c.le (rle.refl _) b1))⟩, s⟩
theorem rds_get (a : At h (rds S)) {e : Sl × List UInt8} (he : e ∈ S) : Bs h e.1.1 e.1.2.1 e.2 := bs_rdo (a.impl fun m q => (q e he).2)
theorem rds_cap (a : At h (rds S)) {e : Sl × List UInt8} (he : e ∈ S) : e.1.2.1 ≤ e.1.2.2 := by
  obtain ⟨m, _, q⟩ := a
  exact (q e he).1
theorem dup_rds : Dup (rds S) := dup_of fun _ q e he => ⟨(q e he).1, rdo_tops (q e he).2⟩
theorem St.rdsTake (hs : St h0 h (rds S :: F)) {e : Sl × List UInt8} (he : e ∈ S) : St h0 h (rdo 1 e.1.1 e.1.2.1 (bcs e.2) :: rds S :: F) := (hs.dup dup_rds).impl fun m q => (q e he).2
end
end Go.Vc
