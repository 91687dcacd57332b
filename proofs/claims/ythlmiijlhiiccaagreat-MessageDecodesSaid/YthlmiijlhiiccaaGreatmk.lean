/- Layer 18: awake; messages of a size that is looked at. -/
import Derived.Test.YthlmiijlhiiccaaGreatmi
import Derived.Test.YthlmiijlhiiccaaGreatmj
import Derived.Test.YthlmiijlhiiccaaGreatL1
import Derived.Test.YthlmiijlhiiccaaGreatFi
set_option linter.unusedVariables false
set_option maxRecDepth 100000
namespace Go.Proofs.YthlmiijlhiiccaaGreat
open Go Go.Vc Go.Proofs Go.Vc.Keys
section
variable {h : Heap}
theorem enc_seven {m : Ms} (h1 : m.kind = 7) (h2 : m.src = 1) (h3 : m.dst = 2) : encM m = some [7, 0, 0, 0, 1, 0, 0, 0, 2] := by
  have st : ∀ f, stopsM m f = false := fun f => by
    have : (m.kind == 4) = false := by rw [h1]; rfl
    unfold stopsM
    rw [this]; rfl
  simp [h1, h2, h3, st, encM, fieldsK, encFs, encF]
  rfl
theorem small_none {m : Ms} (h1 : m.sg.sig.length ≤ 9000) (h2 : m.growth.ahead.length ≤ 30 ∧ m.growth.behind.length ≤ 30) (h3 : m.place.ahead.length ≤ 30 ∧ m.place.behind.length ≤ 30) (h4 : m.proof.steps.length ≤ 30) (h5 : m.chain.length ≤ 30) (h6 : m.rows.length ≤ 30) (h7 : m.news.length ≤ 30) (h8 : m.trees.length ≤ 30) : Small m :=
  ⟨by omega, by omega, by omega, by omega, by omega, by omega, by omega, by omega⟩
theorem sub_get {cs : List Value} {i n j : Nat} {v : Value} (e : ((cs.drop i).take n)[j]? = some v) : cs[i + j]? = some v := by
  rw [List.getElem?_take] at e
  split at e
  · rw [List.getElem?_drop] at e; exact e
  · cases e
/-- Sizes of all that a message has. -/
structure Few18 (m : Ms) : Prop where
  label : m.label.length ≤ 100
  value : m.value.length ≤ 100
  sig : m.sg.sig.length ≤ 9000
  steps : m.proof.steps.length ≤ 30
  chain : m.chain.length ≤ 30
  rows : m.rows.length ≤ 30
  news : m.news.length ≤ 30
  trees : m.trees.length ≤ 30
  growth : m.growth.ahead.length ≤ 30 ∧ m.growth.behind.length ≤ 30
  place : m.place.ahead.length ≤ 30 ∧ m.place.behind.length ≤ 30
  chains : ∀ x ∈ m.chain, x.value.length ≤ 100
  texts : ∀ x ∈ m.news, x.label.length ≤ 100 ∧ x.v.value.length ≤ 100
theorem Few18.small {m : Ms} (f : Few18 m) : Small m := small_none f.sig f.growth f.place f.steps f.chain f.rows f.news f.trees
theorem Few18.short {m : Ms} (f : Few18 m) : Short m := ⟨by have := f.label; omega, by have := f.value; omega, fun x hx => by have := f.chains x hx; omega, fun x hx => by have := f.texts x hx; omega⟩
theorem LsR.hd {α : Type} {sz : Nat} {R : Rel α} {c : Value} {xs : List α} (r : LsR sz R h c xs) : ∃ p l cap, c = .slice p l cap ∧ xs.length = l := by
  obtain ⟨p, l, cap, rows, a, b, d, f, _⟩ := r
  exact ⟨p, l, cap, a, f⟩
theorem TxtR.hd {c : Value} {x : Bytes} (r : TxtR h c x) : ∃ p l cap, c = .slice p l cap ∧ x.length = l := by
  obtain ⟨p, l, cap, a, b, d⟩ := r
  exact ⟨p, l, cap, a, d.1⟩
theorem ls_zero {α : Type} {sz : Nat} {R : Rel α} {cs : List Value} {i : Nat} {xs : List α} (r : ∃ c, cs[i]? = some c ∧ LsR sz R h c xs) (hz : cs[i]? = some (.slice none 0 0)) : xs.length = 0 := by
  obtain ⟨c, hc, hL⟩ := r
  rw [hz] at hc
  cases hc
  obtain ⟨p, l, cap, e, el⟩ := hL.hd
  cases e
  exact el
theorem tx_zero {cs : List Value} {i : Nat} {x : Bytes} (r : ∃ c, cs[i]? = some c ∧ TxtR h c x) (hz : cs[i]? = some (.slice none 0 0)) : x.length = 0 := by
  obtain ⟨c, hc, hL⟩ := r
  rw [hz] at hc
  cases hc
  obtain ⟨p, l, cap, e, el⟩ := hL.hd
  cases e
  exact el
theorem tr_zero {cs : List Value} {t : Trl} (r : TrR h cs t) (hz : cs = [.slice none 0 0, .slice none 0 0]) : t.ahead.length = 0 ∧ t.behind.length = 0 := by
  obtain ⟨c, d, e, h1, h2⟩ := r
  rw [hz] at e
  cases e
  obtain ⟨p, l, cap, e, el⟩ := h1.hd
  cases e
  obtain ⟨p, l, cap, e, el'⟩ := h2.hd
  cases e
  exact ⟨el, el'⟩
theorem three_small {a b c : Int} {m : Ms} (hm : MsR h ([.int .i64 a] ++ ([.int .i64 b] ++ ([.int .i64 c] ++ zeroC msT))) m) : Small m := by
  have h1 := tx_zero hm.sg.sig rfl
  have h2 := tr_zero hm.growth rfl
  have h3 := tr_zero hm.place rfl
  have h4 := ls_zero hm.proof.steps rfl
  have h5 := ls_zero hm.chain rfl
  have h6 := ls_zero hm.rows rfl
  have h7 := ls_zero hm.news rfl
  have h8 := ls_zero hm.trees rfl
  exact small_none (by omega) (by omega) (by omega) (by omega) (by omega) (by omega) (by omega) (by omega)
/-- A program that does nothing does not answer so. -/
theorem awake18_ok : CallsH Tryz.prog n_law18_awake #[] h fun v h' => v = .bool true ∧ Ext h h' := by
  refine C_law18_awake ?_
  unfold F_law18_awake
  obtain ⟨m, hm, k1, k2, k3⟩ := ms_three (h := h) 7 1 2 rfl rfl rfl
  have sm := three_small hm
  have he := enc_seven k1 k2 k3
  have hh := encode18_ok hm sm
  rw [he] at hh
  refine CallsH.mono (R := Told h (some [7, 0, 0, 0, 1, 0, 0, 0, 2])) (by exact hh) fun v h1 hv => ?_
  obtain ⟨p, l, c, hv, nw, _⟩ := hv
  refine ⟨nw.ext, p, l, c, 0, hv, br_yes rfl ?_⟩
  have hl := nw.st.len
  have hext := nw.ext
  have r := rd_own nw.st.at
  have hl1 : l = 9 := by have := hl.1; simp [bcs] at this; omega
  subst hl1
  refine br_yes rfl ⟨by omega, by omega, ?_⟩
  obtain ⟨a, rfl, h0⟩ := r.cell (i := 0) (by simp [bcs])
  obtain ⟨a', e', h4⟩ := r.cell (i := 4) (by simp [bcs])
  cases e'
  simp only [deref_some]
  exact ⟨_, h0, br_yes rfl ⟨by omega, by omega, _, h4, rfl, hext⟩⟩
end
end Go.Proofs.YthlmiijlhiiccaaGreat
