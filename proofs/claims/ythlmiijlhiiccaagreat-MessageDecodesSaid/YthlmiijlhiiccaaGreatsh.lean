/- Layer 18: the reference's Bare. Printed by genbare.py. -/
import Derived.Test.YthlmiijlhiiccaaGreatsg
import Derived.Test.YthlmiijlhiiccaaGreatdf
import Derived.Test.YthlmiijlhiiccaaGreatmk
set_option linter.unusedVariables false
set_option linter.unusedSimpArgs false
set_option maxRecDepth 100000
namespace Go.Proofs.YthlmiijlhiiccaaGreat
open Go Go.Vc Go.Proofs Go.Vc.Keys
def st0 (m : Ms) : Ms := { zeroMs with kind := m.kind, src := m.src, dst := m.dst }
def st1 (m : Ms) : Ms := if (hasK m.kind)[2]? = some true then { st0 m with seq := m.seq } else st0 m
def st2 (m : Ms) : Ms := if (hasK m.kind)[3]? = some true then { st1 m with epoch := m.epoch } else st1 m
def st3 (m : Ms) : Ms := if (hasK m.kind)[4]? = some true then { st2 m with known := m.known } else st2 m
def st4 (m : Ms) : Ms := if m.kind = 2 ∨ m.kind = 4 then { st3 m with err := m.err } else st3 m
def st5 (m : Ms) : Ms := if m.kind = 1 ∨ m.kind = 3 then { st4 m with label := m.label } else st4 m
def st6 (m : Ms) : Ms := if m.kind = 1 then { st5 m with value := m.value } else st5 m
def st7 (m : Ms) : Ms := if m.kind = 4 ∧ m.err = 0 then { st6 m with sg := m.sg, growth := m.growth, place := m.place, tree := m.tree, proof := barePr m.proof, chain := m.chain } else st6 m
def st8 (m : Ms) : Ms := if m.kind = 5 ∨ m.kind = 8 then { st7 m with sg := m.sg, news := m.news } else st7 m
def st9 (m : Ms) : Ms := if m.kind = 5 then { st8 m with rows := m.rows.map bareRw } else st8 m
def st10 (m : Ms) : Ms := if m.kind = 8 then { st9 m with trees := m.trees } else st9 m
/-- The new block has so much of the message. -/
def Br (h h' : Heap) (b7 : Nat) (G : List HP) (mm : Ms) : Prop := ∃ (cs' : List Value) (φ : Heap → Prop), St h h' (pts b7 0 false cs' :: kn φ :: G) ∧ cs'.length = 279 ∧ ∀ h'', Ext h h'' → φ h'' → MsR h'' cs' mm
section
variable {h hh : Heap} {G : List HP} {mm mm' : Ms} {b7 : Nat}
theorem Br.at {i : Nat} (b : Br h hh b7 G mm) : St h hh (G) := by
  obtain ⟨cs', φ, st, _, _⟩ := b
  exact st.drop.drop
theorem Br.keep {h' : Heap} (b : Br h hh b7 G mm) (e : Ext hh h') : Br h h' b7 G mm := by
  obtain ⟨cs', φ, st, l, k⟩ := b
  exact ⟨cs', φ, st.keep e, l, k⟩
theorem Br.set {k o n : Nat} {l : List Value} {ψ : Heap → Prop} {K : Heap → Prop} (b : Br h hh b7 G mm) (hs : ∀ {F : List HP}, St h hh F → St h hh (kn ψ :: F)) (hk : k < 18) (hn : n = siz18 k) (hoff : o = off18 k) (hl : l.length = siz18 k) (ho : ones l)
    (hp : ∀ h'', Ext h h'' → ψ h'' → Part h'' l mm' k) (keep : ∀ h c j, j ≠ k → Part h c mm j → Part h c mm' j) (hK : ∀ h', Br h h' b7 G mm' → K h') : Vc.storeP (some n) hh (Addr.mk b7 o none) (.agg l.toArray) K := by
  obtain ⟨cs', φ, st, hlen, km⟩ := b
  have st := hs st
  have hin := parts_in k hk
  have hc : (Value.agg l.toArray).cells = l.toArray := rfl
  have := st.up1.storeRow (i := o) (n := n) (v := .agg l.toArray) (K := K) (by rw [hc]; simp [hl, hn]) (by omega) (by rw [hc]; exact one_list ho) fun h' s => by
    rw [hc] at s
    refine hK h' ⟨lay cs' o l, fun h => ψ h ∧ φ h, (s.dn2.knBoth).up1, by rw [lay_length (by omega), hlen], fun h'' e q => ?_⟩
    rw [hoff]
    exact msR_lay hk (km h'' e q.2) hl ho (hp h'' e q.1) keep
  rwa [Nat.zero_add] at this
theorem Br.set1 {k o : Nat} {v : Value} {ψ : Heap → Prop} {K : Heap → Prop} (b : Br h hh b7 G mm) (hs : ∀ {F : List HP}, St h hh F → St h hh (kn ψ :: F)) (hk : k < 18) (hn : siz18 k = 1) (hoff : o = off18 k) (ho : v.oneCell' = true)
    (hp : ∀ h'', Ext h h'' → ψ h'' → Part h'' [v] mm' k) (keep : ∀ h c j, j ≠ k → Part h c mm j → Part h c mm' j) (hK : ∀ h', Br h h' b7 G mm' → K h') : Vc.storeP none hh (Addr.mk b7 o none) v K := by
  obtain ⟨cs', φ, st, hlen, km⟩ := b
  have st := hs st
  have hin := parts_in k hk
  refine st.up1.store0 (by omega) ho fun h' s => ?_
  have e : cs'.set o v = lay cs' o [v] := by rw [← lay_cons (l := []) (by omega), lay_nil]
  rw [e] at s
  refine hK h' ⟨lay cs' o [v], fun h => ψ h ∧ φ h, (s.dn2.knBoth).up1, by rw [lay_length (by simp; omega), hlen], fun h'' e q => ?_⟩
  rw [hoff]
  exact msR_lay hk (km h'' e q.2) (by rw [hn]; rfl) (ones_cons ho ones_nil) (hp h'' e q.1) keep
theorem ktrue {F : List HP} (st : St h hh F) : St h hh (kn (fun _ => True) :: F) := st.knAdd fun _ => trivial
theorem st10_bare (m : Ms) (hb : fieldsK m.kind ≠ []) : st10 m = bareM m := by
  have st : ∀ f, m.kind ≠ 4 → stopsM m f = false := fun f h => by
    have : (m.kind == 4) = false := by simpa using h
    unfold stopsM
    rw [this]; rfl
  by_cases h1 : m.kind = 1
  · simp [st10, st9, st8, st7, st6, st5, st4, st3, st2, st1, st0, h1, st, bareM, fieldsK, setFs, setF, hasK, zeroMs]
  by_cases h2 : m.kind = 2
  · simp [st10, st9, st8, st7, st6, st5, st4, st3, st2, st1, st0, h2, st, bareM, fieldsK, setFs, setF, hasK, zeroMs]
  by_cases h3 : m.kind = 3
  · simp [st10, st9, st8, st7, st6, st5, st4, st3, st2, st1, st0, h3, st, bareM, fieldsK, setFs, setF, hasK, zeroMs]
  by_cases h4 : m.kind = 4
  · by_cases he : m.err = 0
    · have st4' : ∀ f, stopsM m f = false := fun f => by unfold stopsM; rw [he]; simp
      simp [st10, st9, st8, st7, st6, st5, st4, st3, st2, st1, st0, h4, he, st4', bareM, fieldsK, setFs, setF, hasK, zeroMs]
    · have s8 : stopsM m 8 = true := by unfold stopsM; rw [h4]; simpa using he
      have sn : ∀ f, f ≠ 8 → stopsM m f = false := fun f h => by
        unfold stopsM
        have : (f == 8) = false := by simpa using h
        rw [this]; simp
      simp [st10, st9, st8, st7, st6, st5, st4, st3, st2, st1, st0, h4, he, s8, sn, bareM, fieldsK, setFs, setF, hasK, zeroMs]
  by_cases h5 : m.kind = 5
  · simp [st10, st9, st8, st7, st6, st5, st4, st3, st2, st1, st0, h5, st, bareM, fieldsK, setFs, setF, hasK, zeroMs]
  by_cases h6 : m.kind = 6
  · simp [st10, st9, st8, st7, st6, st5, st4, st3, st2, st1, st0, h6, st, bareM, fieldsK, setFs, setF, hasK, zeroMs]
  by_cases h7 : m.kind = 7
  · simp [st10, st9, st8, st7, st6, st5, st4, st3, st2, st1, st0, h7, st, bareM, fieldsK, setFs, setF, hasK, zeroMs]
  by_cases h8 : m.kind = 8
  · simp [st10, st9, st8, st7, st6, st5, st4, st3, st2, st1, st0, h8, st, bareM, fieldsK, setFs, setF, hasK, zeroMs]
  · exact absurd (by unfold fieldsK; rw [if_neg h1, if_neg h2, if_neg h3, if_neg h4, if_neg h5, if_neg h6, if_neg h7, if_neg h8]) hb
end
end Go.Proofs.YthlmiijlhiiccaaGreat
