/- What is known of memory that is read alone. It speaks of no program. -/
import Derived.Test.YthlmiijlhiiccaaGreatS
set_option linter.unusedVariables false
namespace Go.Vc
open Go
/-- What holds of every memory in which these cells, read alone, stand. -/
def kn (φ : Heap → Prop) : HP := fun m => ∀ h, Sat h (tops m) → φ h
theorem tops_mono {m n : Res} (a : rle m n) : rle (tops m) (tops n) := fun b o x h => by
  unfold tops at h ⊢
  split at h
  · rename_i v e; cases h; rw [a _ _ _ e]
  · cases h
theorem tops_tops (m : Res) : rle (tops m) (tops (tops m)) := fun b o x h => by
  have h1 := tops_all m b o x h
  unfold tops at h ⊢
  obtain ⟨v, r⟩ := x
  simp only at h1
  subst h1
  split at h
  · rename_i w e; cases h; simp [e]
  · cases h
theorem kn_tops {φ : Heap → Prop} {m : Res} (q : kn φ m) : kn φ (tops m) := fun h s => q h (s.le (tops_tops m))
theorem dup_kn {φ : Heap → Prop} : Dup (kn φ) := dup_of fun _ => kn_tops
theorem kn_at {h : Heap} {φ : Heap → Prop} (a : At h (kn φ)) : φ h := by
  obtain ⟨m, s, q⟩ := a
  exact q h (s.le (tops_le m))
section
variable {h0 h : Heap} {F : List HP} {φ ψ : Heap → Prop}
theorem St.known (hs : St h0 h (kn φ :: F)) : φ h := kn_at hs.at
theorem St.knMono (hs : St h0 h (kn φ :: F)) (t : ∀ h, φ h → ψ h) : St h0 h (kn ψ :: F) := hs.impl fun m q h s => t h (q h s)
theorem St.knAdd (hs : St h0 h F) (t : ∀ h, φ h) : St h0 h (kn φ :: F) := hs.add fun m h _ => t h
theorem St.knBoth (hs : St h0 h (kn φ :: kn ψ :: F)) : St h0 h (kn (fun h => φ h ∧ ψ h) :: F) := hs.conseq fun m ⟨m1, m2, a1, a2, c, q, m3, m4, b1, b2, d, r, s⟩ =>
  ⟨radd m1 m3, m4, radd_le a1 (b1.trans a2), b2.trans a2, ((c.le (rle.refl _) b2).symm.add d.symm).symm, fun h t => ⟨q h (t.le (tops_mono (rle_left _ _))), r h (t.le (tops_mono (rle_right (c.le (rle.refl _) b1))))⟩, s⟩
theorem St.knRdo {sz : Nat} {p : Option Addr} {l : Nat} {vs : List Value} (hs : St h0 h (rdo sz p l vs :: F)) : St h0 h (kn (fun h => Rd h sz p l vs) :: F) := hs.impl fun m q h s => rd_rdo ⟨tops m, s, rdo_tops q⟩
theorem St.knOwn {sz : Nat} {p : Option Addr} {l c : Nat} {vs : List Value} (hs : St h0 h (own sz p l c vs :: F)) : St h0 h (kn (fun h => l ≤ c ∧ c ≤ maxLen ∧ Rd h sz p l vs) :: F) := by
  have h1 := hs.len
  exact hs.ro.knRdo.knMono fun h r => ⟨h1.2.1, h1.2.2, r⟩
theorem St.knDup (hs : St h0 h (kn φ :: F)) : St h0 h (kn φ :: kn φ :: F) := hs.dup dup_kn
end
end Go.Vc
