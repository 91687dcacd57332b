/- Bytes made of a text: a new block, marked. -/
import Derived.Test.YtkeggnfffnodmaaSs
set_option linter.unusedVariables false
namespace Go.Vc
open Go
theorem markH_push {h : Heap} {t : TypeId} {cs : Array Value} : markH (h.push (.cells cs t)) (Addr.mk h.size 0 none) = h.push (.cells cs t (cs.size, cs.size + 1)) := by
  unfold markH
  simp only [Array.getElem?_push_size]
  apply Array.ext
  · simp
  · intro i h1 h2
    simp only [Array.size_push] at h2
    by_cases hi : i = h.size
    · subst hi
      simp [Array.getElem_modify]
    · have : i < h.size := by omega
      simp [Array.getElem_modify, Array.getElem_push, this, Ne.symm hi]
theorem St.newMark {h0 h : Heap} {F : List HP} {t : TypeId} {cs : Array Value} {K : Nat → Heap → Prop} (hs : St h0 h F) (hk : ∀ b h', St h0 h' (pts b 0 false cs.toList :: F) → Ext h h' → K b h') :
    Vc.newBlk h t cs fun b h5 => (∃ (b6 : TypeId) (b7 : Nat), (match h5[b]? with | some (Obj.cells c' t' frozen) => some (t', c'.size) | x => none) = some (b6, b7)) ∧ ∀ h8, h8 = markH h5 (Addr.mk b 0 none) → K b h8 := by
  intro b h' e1 e2
  subst e1; subst e2
  refine ⟨⟨t, cs.size, by simp⟩, fun h8 e => ?_⟩
  rw [markH_push] at e
  subst e
  refine hk _ _ ?_ (Ext.push h _)
  refine hs.join (l' := [pts h.size 0 false cs.toList]) ⟨Ext.push h _, fun b o => if b = h.size then (cs[o]?).map (·, false) else none, ?_, ?_, ?_⟩
  · exact ⟨_, fun _ _ => none, rle.refl _, fun _ _ _ h => by simp at h, fun _ _ _ _ _ h => by simp at h, fun i v e => by simp at e; simp [e], trivial⟩
  · intro b o v r e
    simp only at e
    split at e
    · rename_i hb; subst hb
      cases hc : cs[o]? with
      | none => simp [hc] at e
      | some w =>
        have ho := (Array.getElem?_eq_some_iff.1 hc).1
        simp [hc] at e
        obtain ⟨rfl, rfl⟩ := e
        exact ⟨by simp [Vc.cell, hc], fun _ => by simp [Vc.frz]; omega⟩
    · cases e
  · intro b o x e
    simp only at e
    split at e
    · omega
    · cases e
theorem New.under {h0 h h' : Heap} {l : List HP} (e : Ext h0 h) (n : New h h' l) : New h0 h' l := by
  obtain ⟨e', m, s, a, b⟩ := n
  exact ⟨e.trans e', m, s, a, fun x o y hx => Nat.le_trans e.size (b x o y hx)⟩
end Go.Vc
