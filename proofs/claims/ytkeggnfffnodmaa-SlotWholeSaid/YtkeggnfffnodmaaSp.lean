/- Parts of memory, kept apart: what is owned, what may be read by all. It speaks of no program. -/
import Derived.Test.YtkeggnfffnodmaaHq
set_option linter.unusedVariables false
namespace Go.Vc
open Go

/-- A part of memory: what some cells hold, and whether they are read alone (by all). -/
abbrev Res := Nat → Nat → Option (Value × Bool)
def rle (m n : Res) : Prop := ∀ b o x, m b o = some x → n b o = some x
def radd (m n : Res) : Res := fun b o => match m b o with | some x => some x | none => n b o
def Comp (m n : Res) : Prop := ∀ b o x y, m b o = some x → n b o = some y → x = y ∧ x.2 = true
abbrev HP := Res → Prop
def star : List HP → HP
  | [], _ => True
  | P :: r, m => ∃ m1 m2, rle m1 m ∧ rle m2 m ∧ Comp m1 m2 ∧ P m1 ∧ star r m2
def Sat (h : Heap) (m : Res) : Prop := ∀ b o v r, m b o = some (v, r) → cell h (Addr.mk b o none) = some v ∧ (r = false → frz h (Addr.mk b o none) = false)
/-- From h0 on only new memory has changed, and in h these parts stand apart. -/
structure St (h0 h : Heap) (l : List HP) : Prop where
  ext : Ext h0 h
  res : ∃ m, star l m ∧ Sat h m ∧ ∀ b o v, m b o = some (v, false) → h0.size ≤ b
/-- The same, and all of it is new. -/
structure New (h0 h : Heap) (l : List HP) : Prop where
  ext : Ext h0 h
  res : ∃ m, star l m ∧ Sat h m ∧ ∀ b o x, m b o = some x → h0.size ≤ b
def At (h : Heap) (P : HP) : Prop := ∃ m, Sat h m ∧ P m

theorem rle.refl (m : Res) : rle m m := fun _ _ _ h => h
theorem rle.trans {m n k : Res} (a : rle m n) (b : rle n k) : rle m k := fun x y z h => b x y z (a x y z h)
theorem rle_left (m n : Res) : rle m (radd m n) := fun b o x h => by simp [radd, h]
theorem rle_right {m n : Res} (c : Comp m n) : rle n (radd m n) := fun b o x h => by
  unfold radd
  cases e : m b o with
  | none => exact h
  | some y => simp only; rw [(c b o y x e h).1]
theorem radd_le {m n k : Res} (a : rle m k) (b : rle n k) : rle (radd m n) k := fun x y z h => by
  unfold radd at h
  split at h
  · rename_i w e; exact a _ _ _ (e.trans h)
  · exact b _ _ _ h
theorem Comp.symm {m n : Res} (c : Comp m n) : Comp n m := fun b o x y h h' => by
  obtain ⟨e, f⟩ := c b o y x h' h
  subst e; exact ⟨rfl, f⟩
theorem Comp.le {m n m' n' : Res} (c : Comp m n) (a : rle m' m) (b : rle n' n) : Comp m' n' := fun x y z w h h' => c x y z w (a _ _ _ h) (b _ _ _ h')
theorem Comp.add {m n k : Res} (a : Comp m n) (b : Comp m k) : Comp m (radd n k) := fun x y z w h h' => by
  unfold radd at h'
  split at h'
  · rename_i u e; exact a x y z w h (e.trans h')
  · exact b x y z w h h'
theorem Sat.le {h : Heap} {m n : Res} (s : Sat h n) (a : rle m n) : Sat h m := fun b o v r e => s b o v r (a _ _ _ e)
theorem Sat.lt {h : Heap} {m : Res} (s : Sat h m) {b o : Nat} {x : Value × Bool} (e : m b o = some x) : b < h.size := by
  have := (s b o x.1 x.2 e).1
  unfold cell at this
  by_cases hb : b < h.size
  · exact hb
  · rw [Array.getElem?_eq_none (by simpa using hb)] at this
    simp at this
theorem cell_same {h h' : Heap} {a : Addr} (e : h'[a.block]? = h[a.block]?) : cell h' a = cell h a := by unfold cell; rw [e]
theorem frz_same {h h' : Heap} {a : Addr} (e : h'[a.block]? = h[a.block]?) : frz h' a = frz h a := by unfold frz; rw [e]
theorem Sat.ext {h h' : Heap} {m : Res} (s : Sat h m) (e : Ext h h') : Sat h' m := fun b o v r x => by
  have hb := s.lt x
  have := s b o v r x
  rw [cell_same (a := Addr.mk b o none) (e b hb), frz_same (a := Addr.mk b o none) (e b hb)]
  exact this

theorem star_le {l : List HP} : ∀ {m n : Res}, star l m → rle m n → star l n := by
  cases l with
  | nil => intro m n _ _; trivial
  | cons P r => rintro m n ⟨m1, m2, a, b, c, d, e⟩ le; exact ⟨m1, m2, a.trans le, b.trans le, c, d, e⟩
theorem star_swap {P Q : HP} {r : List HP} {m : Res} (s : star (P :: Q :: r) m) : star (Q :: P :: r) m := by
  obtain ⟨m1, m2, a, b, c, p, m3, m4, d, e, f, q, s⟩ := s
  have c13 : Comp m1 m3 := c.le (rle.refl _) d
  have c14 : Comp m1 m4 := c.le (rle.refl _) e
  exact ⟨m3, radd m1 m4, d.trans b, radd_le a (e.trans b), c13.symm.add f, q, m1, m4, rle_left _ _, rle_right c14, c14, p, s⟩
theorem star_tail {P : HP} {l l' : List HP} (t : ∀ m, star l m → star l' m) {m : Res} (s : star (P :: l) m) : star (P :: l') m := by
  obtain ⟨m1, m2, a, b, c, p, s⟩ := s
  exact ⟨m1, m2, a, b, c, p, t _ s⟩
theorem star_head {P Q : HP} {l : List HP} (t : ∀ m, P m → Q m) {m : Res} (s : star (P :: l) m) : star (Q :: l) m := by
  obtain ⟨m1, m2, a, b, c, p, s⟩ := s
  exact ⟨m1, m2, a, b, c, t _ p, s⟩
theorem star_flat {l : List HP} {F : List HP} : ∀ {m : Res}, star (star l :: F) m → star (l ++ F) m := by
  induction l with
  | nil => rintro m ⟨m1, m2, a, b, c, p, s⟩; exact star_le s b
  | cons P r ih =>
    rintro m ⟨m1, m2, a, b, c, ⟨m3, m4, d, e, f, p, q⟩, s⟩
    have c42 : Comp m4 m2 := c.le e (rle.refl _)
    have c32 : Comp m3 m2 := c.le d (rle.refl _)
    refine ⟨m3, radd m4 m2, d.trans a, radd_le (e.trans a) b, f.add c32, p, ih ⟨m4, m2, rle_left _ _, rle_right c42, c42, q, s⟩⟩
theorem star_pack {l : List HP} {F : List HP} : ∀ {m : Res}, star (l ++ F) m → star (star l :: F) m := by
  induction l with
  | nil => intro m s; exact ⟨fun _ _ => none, m, fun _ _ _ h => by simp at h, rle.refl _, fun _ _ _ _ h => by simp at h, trivial, s⟩
  | cons P r ih =>
    rintro m ⟨m1, m2, a, b, c, p, s⟩
    obtain ⟨m3, m4, d, e, f, q, s⟩ := ih s
    have c13 : Comp m1 m3 := c.le (rle.refl _) d
    have c14 : Comp m1 m4 := c.le (rle.refl _) e
    exact ⟨radd m1 m3, m4, radd_le a (d.trans b), e.trans b, (c14.symm.add f.symm).symm, ⟨m1, m3, rle_left _ _, rle_right c13, c13, p, q⟩, s⟩

section
variable {h0 h h' : Heap} {P Q : HP} {F : List HP}

theorem St.conseq {l l' : List HP} (hs : St h0 h l) (t : ∀ m, star l m → star l' m) : St h0 h l' := by
  obtain ⟨e, m, s, a, b⟩ := hs
  exact ⟨e, m, t m s, a, b⟩
theorem St.start (h : Heap) : St h h [] := ⟨Ext.refl h, fun _ _ => none, trivial, fun _ _ _ _ h => by simp at h, fun _ _ _ h => by simp at h⟩
theorem St.up1 {A B : HP} (hs : St h0 h (A :: B :: F)) : St h0 h (B :: A :: F) := hs.conseq fun _ => star_swap
theorem St.up2 {A B C : HP} (hs : St h0 h (A :: B :: C :: F)) : St h0 h (C :: A :: B :: F) := hs.conseq fun _ s => star_swap (star_tail (fun _ => star_swap) s)
theorem St.up3 {A B C D : HP} (hs : St h0 h (A :: B :: C :: D :: F)) : St h0 h (D :: A :: B :: C :: F) :=
  hs.conseq fun _ s => star_swap (star_tail (fun _ s => star_swap (star_tail (fun _ => star_swap) s)) s)
theorem St.up4 {A B C D E : HP} (hs : St h0 h (A :: B :: C :: D :: E :: F)) : St h0 h (E :: A :: B :: C :: D :: F) :=
  hs.conseq fun _ s => star_swap (star_tail (fun _ s => star_swap (star_tail (fun _ s => star_swap (star_tail (fun _ => star_swap) s)) s)) s)
theorem St.up5 {A B C D E G : HP} (hs : St h0 h (A :: B :: C :: D :: E :: G :: F)) : St h0 h (G :: A :: B :: C :: D :: E :: F) :=
  hs.conseq fun _ s => star_swap (star_tail (fun _ s => star_swap (star_tail (fun _ s => star_swap (star_tail (fun _ s => star_swap (star_tail (fun _ => star_swap) s)) s)) s)) s)
/-- The first goes behind the second, third .. -/
theorem St.dn2 {A B C : HP} (hs : St h0 h (A :: B :: C :: F)) : St h0 h (B :: C :: A :: F) := hs.up2.up2
theorem St.dn3 {A B C D : HP} (hs : St h0 h (A :: B :: C :: D :: F)) : St h0 h (B :: C :: D :: A :: F) := hs.up3.up3.up3
theorem St.drop (hs : St h0 h (P :: F)) : St h0 h F := hs.conseq fun _ ⟨_, _, _, b, _, _, s⟩ => star_le s b
theorem St.impl (hs : St h0 h (P :: F)) (t : ∀ m, P m → Q m) : St h0 h (Q :: F) := hs.conseq fun _ => star_head t
theorem St.flat {l : List HP} (hs : St h0 h (star l :: F)) : St h0 h (l ++ F) := hs.conseq fun _ => star_flat
theorem St.pack {l : List HP} (hs : St h0 h (l ++ F)) : St h0 h (star l :: F) := hs.conseq fun _ => star_pack
theorem St.ex {α : Type} {P : α → HP} (hs : St h0 h ((fun m => ∃ x, P x m) :: F)) : ∃ x, St h0 h (P x :: F) := by
  obtain ⟨e, m, ⟨m1, m2, a, b, c, ⟨x, p⟩, s⟩, t, u⟩ := hs
  exact ⟨x, e, m, ⟨m1, m2, a, b, c, p, s⟩, t, u⟩
theorem St.pure {φ : Prop} (hs : St h0 h (P :: F)) (t : ∀ m, P m → φ) : φ := by
  obtain ⟨e, m, ⟨m1, m2, a, b, c, p, s⟩, _, _⟩ := hs
  exact t _ p
theorem St.and {φ : Prop} (hs : St h0 h ((fun m => φ ∧ P m) :: F)) : φ ∧ St h0 h (P :: F) := ⟨hs.pure fun _ h => h.1, hs.impl fun _ h => h.2⟩
theorem St.at (hs : St h0 h (P :: F)) : At h P := by
  obtain ⟨e, m, ⟨m1, m2, a, b, c, p, s⟩, t, u⟩ := hs
  exact ⟨m1, t.le a, p⟩
theorem At.impl (a : At h P) (t : ∀ m, P m → Q m) : At h Q := by
  obtain ⟨m, s, p⟩ := a
  exact ⟨m, s, t _ p⟩
theorem At.ext (a : At h P) (e : Ext h h') : At h' P := by
  obtain ⟨m, s, p⟩ := a
  exact ⟨m, s.ext e, p⟩
theorem New.st {l : List HP} (n : New h0 h l) : St h0 h l := by
  obtain ⟨e, m, s, a, b⟩ := n
  exact ⟨e, m, s, a, fun x o v => b x o (v, false)⟩
theorem New.start (h : Heap) : New h h [] := ⟨Ext.refl h, fun _ _ => none, trivial, fun _ _ _ _ h => by simp at h, fun _ _ _ h => by simp at h⟩
/-- What a call has made stands beside what was there. -/
theorem St.join {l l' : List HP} (hs : St h0 h l) (n : New h h' l') : St h0 h' (l' ++ l) := by
  obtain ⟨e, m, s, a, b⟩ := hs
  obtain ⟨e', m', s', a', b'⟩ := n
  have c : Comp m' m := fun x o y z h1 h2 => by have := b' _ _ _ h1; have := a.lt h2; omega
  refine ⟨e.trans e', radd m' m, ?_, ?_, ?_⟩
  · exact star_flat ⟨m', m, rle_left _ _, rle_right c, c, s', s⟩
  · intro x o v r hx
    unfold radd at hx
    split at hx
    · rename_i w ew; exact a' _ _ _ _ (ew.trans hx)
    · exact a.ext e' _ _ _ _ hx
  · intro x o v hx
    unfold radd at hx
    split at hx
    · rename_i w ew; have := b' _ _ _ (ew.trans hx); have := e.size; omega
    · exact b _ _ _ hx
theorem St.keep {l : List HP} (hs : St h0 h l) (e : Ext h h') : St h0 h' l := by
  obtain ⟨e0, m, s, a, b⟩ := hs
  exact ⟨e0.trans e, m, s, a.ext e, b⟩
theorem New.join {l l' : List HP} (hs : New h0 h l) (n : New h h' l') : New h0 h' (l' ++ l) := by
  obtain ⟨e, m, s, a, b⟩ := hs
  obtain ⟨e', m', s', a', b'⟩ := n
  have c : Comp m' m := fun x o y z h1 h2 => by have := b' _ _ _ h1; have := a.lt h2; omega
  refine ⟨e.trans e', radd m' m, ?_, ?_, ?_⟩
  · exact star_flat ⟨m', m, rle_left _ _, rle_right c, c, s', s⟩
  · intro x o v r hx
    unfold radd at hx
    split at hx
    · rename_i w ew; exact a' _ _ _ _ (ew.trans hx)
    · exact a.ext e' _ _ _ _ hx
  · intro x o v hx
    unfold radd at hx
    split at hx
    · rename_i w ew; have := b' _ _ _ (ew.trans hx); have := e.size; omega
    · exact b _ _ _ hx

/- ### Owned alone -/
def flagged (m : Res) : Res := fun b o => match m b o with | some (v, false) => some (v, false) | _ => none
/-- It needs nothing that is read by all. -/
def Owns (P : HP) : Prop := ∀ m, P m → P (flagged m)
def OwnsL : List HP → Prop
  | [] => True
  | P :: r => Owns P ∧ OwnsL r
theorem flagged_le (m : Res) : rle (flagged m) m := fun b o x h => by
  unfold flagged at h
  split at h
  · rename_i v e; cases h; exact e
  · cases h
theorem flagged_mono {m n : Res} (a : rle m n) : rle (flagged m) (flagged n) := fun b o x h => by
  unfold flagged at h ⊢
  split at h
  · rename_i v e; cases h; rw [a _ _ _ e]
  · cases h
theorem star_owned : ∀ {l : List HP}, OwnsL l → ∀ {m : Res}, star l m → star l (flagged m)
  | [], _, _, _ => trivial
  | P :: r, ⟨o1, o2⟩, m, ⟨m1, m2, a, b, c, p, s⟩ => ⟨flagged m1, flagged m2, flagged_mono a, flagged_mono b, c.le (flagged_le _) (flagged_le _), o1 _ p, star_owned o2 s⟩
theorem St.new {l : List HP} (hs : St h h' l) (o : OwnsL l) : New h h' l := by
  obtain ⟨e, m, s, a, b⟩ := hs
  refine ⟨e, flagged m, star_owned o s, a.le (flagged_le _), fun x y z hz => ?_⟩
  have hz' := flagged_le _ _ _ _ hz
  unfold flagged at hz
  split at hz
  · rename_i v e; cases hz; exact b _ _ _ e
  · cases hz
theorem owns_star {l : List HP} (o : OwnsL l) : Owns (star l) := fun _ s => star_owned o s

/- ### Cells -/
/-- Some cells, one behind the other. -/
def pts (b o : Nat) (r : Bool) (vs : List Value) : HP := fun m => ∀ i v, vs[i]? = some v → m b (o + i) = some (v, r)
theorem owns_pts {b o : Nat} {vs : List Value} : Owns (pts b o false vs) := fun m p i v e => by unfold flagged; rw [p i v e]
theorem pts_cell {b o : Nat} {r : Bool} {vs : List Value} (a : At h (pts b o r vs)) {i : Nat} {v : Value} (e : vs[i]? = some v) : cell h (Addr.mk b (o + i) none) = some v := by
  obtain ⟨m, s, p⟩ := a
  exact (s _ _ _ _ (p i v e)).1
theorem pts_row {b o : Nat} {r : Bool} {vs : List Value} (a : At h (pts b o r vs)) {i n : Nat} (hn : i + n ≤ vs.length) : row h (Addr.mk b (o + i) none) n = some ((vs.drop i).take n).toArray := by
  have hl : ((vs.drop i).take n).length = n := by simp; omega
  have := row_of (h := h) (a := Addr.mk b (o + i) none) ((vs.drop i).take n) fun j hj => by
    rw [add_mk, Nat.add_assoc]
    refine pts_cell a ?_
    rw [List.getElem_take, List.getElem_drop]
    exact List.getElem?_eq_getElem _
  rw [hl] at this
  exact this
theorem pts_app {b o : Nat} {r : Bool} {xs ys : List Value} {m : Res} : pts b o r (xs ++ ys) m ↔ pts b o r xs m ∧ pts b (o + xs.length) r ys m := by
  constructor
  · intro p
    refine ⟨fun i v e => p i v (by rw [List.getElem?_append_left (by exact (List.getElem?_eq_some_iff.1 e).1)]; exact e), fun i v e => ?_⟩
    rw [Nat.add_assoc]
    exact p _ _ (by rw [List.getElem?_append_right (by omega), Nat.add_sub_cancel_left]; exact e)
  · rintro ⟨p, q⟩ i v e
    by_cases hi : i < xs.length
    · exact p i v (by rw [List.getElem?_append_left hi] at e; exact e)
    · rw [List.getElem?_append_right (by omega)] at e
      have := q _ _ e
      rw [show o + xs.length + (i - xs.length) = o + i by omega] at this
      exact this
def rset (m : Res) (b o : Nat) (v : Value) : Res := fun b' o' => if b' = b ∧ o' = o then some (v, false) else m b' o'
theorem cell_put {h : Heap} {b o : Nat} {u v : Value} (hc : cell h (Addr.mk b o none) = some u) (b' o' : Nat) : cell (put h (Addr.mk b o none) v) (Addr.mk b' o' none) = if b' = b ∧ o' = o then some v else cell h (Addr.mk b' o' none) := by
  by_cases hb : b' = b
  · subst hb
    unfold cell put at *
    simp only [Array.getElem?_modify] at hc ⊢
    cases hh : h[b']? with
    | none => simp [hh] at hc
    | some ob =>
      cases ob <;> simp [hh] at hc ⊢
      rename_i c t f
      have ho : o < c.size := by
        by_cases ho : o < c.size
        · exact ho
        · rw [Array.getElem?_eq_none (by omega)] at hc; cases hc
      rw [Array.getElem?_setIfInBounds]
      by_cases hoo : o = o'
      · subst hoo; simp [ho]
      · simp [hoo, Ne.symm hoo]
  · have : (put h (Addr.mk b o none) v)[b']? = h[b']? := put_other (fun e => hb e.symm)
    rw [cell_same (h := h) this]
    simp [hb]
theorem frz_put' {h : Heap} {b o : Nat} {v : Value} (b' o' : Nat) : frz (put h (Addr.mk b o none) v) (Addr.mk b' o' none) = frz h (Addr.mk b' o' none) := by
  by_cases hb : b' = b
  · subst hb
    unfold frz put
    simp only [Array.getElem?_modify]
    cases hh : h[b']? with
    | none => simp
    | some ob => cases ob <;> simp
  · exact frz_same (put_other (fun e => hb e.symm))
/-- One cell stored. -/
theorem St.put {b o : Nat} {v : Value} (hs : St h0 h (P :: F)) (hp : ∀ m, P m → ∃ u, m b o = some (u, false)) (hq : ∀ m, P m → Q (rset m b o v)) : St h0 (put h (Addr.mk b o none) v) (Q :: F) ∧ wrt h (Addr.mk b o none) := by
  obtain ⟨e, m, ⟨m1, m2, a, bb, c, p, s⟩, t, u⟩ := hs
  obtain ⟨w, hw⟩ := hp _ p
  have hm := a _ _ _ hw
  have hc := t _ _ _ _ hm
  refine ⟨⟨?_, rset m b o v, ⟨rset m1 b o v, m2, ?_, ?_, ?_, hq _ p, s⟩, ?_, ?_⟩, by rw [hc.1]; rfl, hc.2 rfl⟩
  · refine fun x hx => (put_other (h := h) (fun e => ?_)).trans (e x hx)
    have := u _ _ _ hm
    simp at e
    omega
  · intro x y z hz
    unfold rset at *
    split at hz
    · rename_i hxy; rw [if_pos hxy]; exact hz
    · rename_i hxy; rw [if_neg hxy]; exact a _ _ _ hz
  · intro x y z hz
    unfold rset
    split
    · rename_i hxy
      obtain ⟨rfl, rfl⟩ := hxy
      have := c _ _ _ _ hw hz
      simp at this
    · exact bb _ _ _ hz
  · intro x y z z' hz hz'
    unfold rset at hz
    split at hz
    · rename_i hxy
      obtain ⟨rfl, rfl⟩ := hxy
      have := c _ _ _ _ hw hz'
      simp at this
    · exact c _ _ _ _ hz hz'
  · intro x y z r hz
    unfold rset at hz
    rw [cell_put hc.1, frz_put']
    split at hz
    · rename_i hxy
      rw [if_pos hxy]
      cases hz
      obtain ⟨rfl, rfl⟩ := hxy
      exact ⟨rfl, fun _ => hc.2 rfl⟩
    · rename_i hxy; rw [if_neg hxy]; exact t _ _ _ _ hz
  · intro x y z hz
    unfold rset at hz
    split at hz
    · rename_i hxy
      obtain ⟨rfl, rfl⟩ := hxy
      exact u _ _ _ hm
    · exact u _ _ _ hz
theorem pts_set {b o i : Nat} {v : Value} {vs : List Value} {m : Res} (p : pts b o false vs m) : pts b o false (vs.set i v) (rset m b (o + i) v) := fun j w e => by
  unfold rset
  rw [List.getElem?_set] at e
  split at e
  · rename_i hij; subst hij
    split at e
    · cases e; simp
    · cases e
  · rename_i hij
    rw [if_neg (by omega)]
    exact p j w e
theorem St.storeP {b o i : Nat} {v : Value} {vs : List Value} {K : Heap → Prop} (hs : St h0 h (pts b o false vs :: F)) (hi : i < vs.length) (hv : v.oneCell' = true)
    (hk : ∀ h', St h0 h' (pts b o false (vs.set i v) :: F) → K h') : storeP none h (Addr.mk b (o + i) none) v K := by
  obtain ⟨s, w⟩ := hs.put (b := b) (o := o + i) (v := v) (Q := pts b o false (vs.set i v)) (fun m p => ⟨vs[i], p i _ (List.getElem?_eq_getElem hi)⟩) (fun m p => pts_set p)
  exact ⟨hv, w, fun h' e => by subst e; exact hk _ s⟩
/-- List l put in the place of what stands from i on. -/
def lay (vs : List Value) (i : Nat) (l : List Value) : List Value := vs.take i ++ (l ++ vs.drop (i + l.length))
theorem lay_length {vs l : List Value} {i : Nat} (hle : i + l.length ≤ vs.length) : (lay vs i l).length = vs.length := by simp [lay]; omega
theorem lay_nil (vs : List Value) (i : Nat) : lay vs i [] = vs := by simp [lay]
theorem lay_cons {vs l : List Value} {i : Nat} {v : Value} (hle : i < vs.length) : lay (vs.set i v) (i + 1) l = lay vs i (v :: l) := by
  unfold lay
  rw [List.take_succ_eq_append_getElem (by simpa using hle), List.getElem_set_self, List.take_set_of_le (Nat.le_refl _), List.drop_set_of_lt (by omega)]
  simp [Nat.add_assoc, Nat.add_comm 1]
theorem lay_all {vs l : List Value} (hl : l.length = vs.length) : lay vs 0 l = l := by simp [lay, hl]
theorem St.putRow {b o : Nat} : ∀ (l vs : List Value) (h : Heap) (i j : Nat), St h0 h (pts b o false vs :: F) → j + i + l.length ≤ vs.length →
    St h0 (Vc.putRow h (Addr.mk b (o + j) none) i l) (pts b o false (lay vs (j + i) l) :: F) ∧ ∀ k, i ≤ k → k < i + l.length → wrt h (Addr.mk b (o + j + k) none)
  | [], vs, h, i, j, hs, _ => ⟨by rw [lay_nil]; exact hs, fun k h1 h2 => by simp at h2; omega⟩
  | v :: r, vs, h, i, j, hs, hle => by
    simp only [List.length_cons] at hle
    obtain ⟨s, w⟩ := hs.put (b := b) (o := o + (j + i)) (v := v) (Q := pts b o false (vs.set (j + i) v)) (fun m p => ⟨_, p (j + i) _ (List.getElem?_eq_getElem (by omega))⟩) (fun m p => pts_set p)
    obtain ⟨s2, w2⟩ := St.putRow r (vs.set (j + i) v) _ (i + 1) j s (by simp; omega)
    refine ⟨?_, fun k h1 h2 => ?_⟩
    · unfold Vc.putRow
      rw [add_mk, show o + j + i = o + (j + i) by omega]
      rw [show j + (i + 1) = j + i + 1 by omega, lay_cons (by omega)] at s2
      exact s2
    · by_cases hk : k = i
      · subst hk; rw [show o + j + k = o + (j + k) by omega]; exact w
      · have := w2 k (by omega) (by simp at h2; omega)
        unfold wrt at this ⊢
        rw [frz_put'] at this
        refine ⟨?_, this.2⟩
        have h3 := this.1
        rw [cell_put (u := (vs[j + i]'(by omega))) (by exact pts_cell hs.at (List.getElem?_eq_getElem _))] at h3
        rw [if_neg (by omega)] at h3
        exact h3
theorem St.storeRow {b o i n : Nat} {v : Value} {vs : List Value} {K : Heap → Prop} (hs : St h0 h (pts b o false vs :: F)) (hn : v.cells.size = n) (hi : i + n ≤ vs.length) (hv : one v.cells)
    (hk : ∀ h', St h0 h' (pts b o false (lay vs i v.cells.toList) :: F) → K h') : Vc.storeP (some n) h (Addr.mk b (o + i) none) v K := by
  obtain ⟨s, w⟩ := St.putRow v.cells.toList vs h 0 i hs (by simp; omega)
  refine ⟨hn, hv, fun k hk => ?_, fun h' e => by subst e; exact hk _ s⟩
  rw [add_mk]
  exact w k (Nat.zero_le _) (by simp; omega)
/-- New memory. -/
theorem St.newBlk {t : TypeId} {cs : Array Value} {K : Nat → Heap → Prop} (hs : St h0 h F) (hk : ∀ b h', h.size ≤ b → St h0 h' (pts b 0 false cs.toList :: F) → Ext h h' → K b h') : newBlk h t cs K := by
  intro b h' e1 e2
  subst e1; subst e2
  refine hk _ _ (Nat.le_refl _) ?_ (Ext.push h _)
  refine hs.join (l' := [pts h.size 0 false cs.toList]) ⟨Ext.push h _, fun b o => if b = h.size then (cs[o]?).map (·, false) else none, ?_, ?_, ?_⟩
  · exact ⟨_, fun _ _ => none, rle.refl _, fun _ _ _ h => by simp at h, fun _ _ _ _ _ h => by simp at h, fun i v e => by simp at e; simp [e], trivial⟩
  · intro b o v r e
    simp only at e
    split at e
    · rename_i hb; subst hb
      cases hc : cs[o]? with
      | none => simp [hc] at e
      | some w =>
        simp [hc] at e
        obtain ⟨rfl, rfl⟩ := e
        exact ⟨by simp [cell, hc], fun _ => by simp [frz]⟩
    · cases e
  · intro b o x e
    simp only at e
    split at e
    · omega
    · cases e
theorem New.newBlk {t : TypeId} {cs : Array Value} {K : Nat → Heap → Prop} (hk : ∀ b h', New h h' [pts b 0 false cs.toList] → K b h') : Vc.newBlk h t cs K :=
  (St.start h).newBlk fun b h' _ s _ => hk b h' (s.new ⟨owns_pts, trivial⟩)

/- ### Slices -/
/-- A slice whose cells, to the capacity, are ours. -/
def own (sz : Nat) (p : Option Addr) (l c : Nat) (vs : List Value) : HP := fun m =>
  vs.length = l * sz ∧ l ≤ c ∧ c ≤ maxLen ∧ ((p = none ∧ c = 0) ∨ ∃ b o rest, p = some (Addr.mk b o none) ∧ rest.length = (c - l) * sz ∧ pts b o false (vs ++ rest) m)
/-- A slice that is read alone. -/
def rdo (sz : Nat) (p : Option Addr) (l : Nat) (vs : List Value) : HP := fun m =>
  vs.length = l * sz ∧ (l * sz = 0 ∨ ∃ b o, p = some (Addr.mk b o none) ∧ pts b o true vs m)
theorem owns_own {sz : Nat} {p : Option Addr} {l c : Nat} {vs : List Value} : Owns (own sz p l c vs) := fun m ⟨a, b, c, d⟩ =>
  ⟨a, b, c, d.imp id fun ⟨x, o, rest, e, f, g⟩ => ⟨x, o, rest, e, f, owns_pts _ g⟩⟩
theorem src_zero (h : Heap) (p : Option Addr) : src h p 0 = some #[] := by cases p <;> rfl
theorem rd_own {sz : Nat} {p : Option Addr} {l c : Nat} {vs : List Value} (a : At h (own sz p l c vs)) : Rd h sz p l vs := by
  obtain ⟨m, s, e1, e2, e3, e4⟩ := a
  refine ⟨e1, ?_⟩
  rcases e4 with ⟨rfl, rfl⟩ | ⟨b, o, rest, rfl, hr, hp⟩
  · have : l = 0 := by omega
    subst this
    have : vs = [] := List.eq_nil_of_length_eq_zero (by simpa using e1)
    subst this
    simp [src]
  · have := pts_row (i := 0) (n := l * sz) ⟨m, s, (pts_app.1 hp).1⟩ (by omega)
    simp only [Nat.add_zero, List.drop_zero] at this
    simp only [src]
    rw [this, List.take_of_length_le (by omega)]
theorem rd_rdo {sz : Nat} {p : Option Addr} {l : Nat} {vs : List Value} (a : At h (rdo sz p l vs)) : Rd h sz p l vs := by
  obtain ⟨m, s, e1, e2⟩ := a
  refine ⟨e1, ?_⟩
  rcases e2 with hz | ⟨b, o, rfl, hp⟩
  · rw [hz, src_zero]
    have : vs = [] := List.eq_nil_of_length_eq_zero (by omega)
    subst this; rfl
  · have := pts_row (i := 0) (n := l * sz) ⟨m, s, hp⟩ (by omega)
    simp only [Nat.add_zero, List.drop_zero] at this
    simp only [src]
    rw [this, List.take_of_length_le (by omega)]
theorem bs_own {p : Option Addr} {l c : Nat} {bs : List UInt8} (a : At h (own 1 p l c (bs.map bv))) : Bs h p l bs := ⟨by have := (rd_own a).1; simpa using this, rd_own a⟩
theorem bs_rdo {p : Option Addr} {l : Nat} {bs : List UInt8} (a : At h (rdo 1 p l (bs.map bv))) : Bs h p l bs := ⟨by have := (rd_rdo a).1; simpa using this, rd_rdo a⟩
theorem own_nil (sz : Nat) (m : Res) : own sz none 0 0 [] m := ⟨by simp, Nat.le_refl _, Nat.zero_le _, .inl ⟨rfl, rfl⟩⟩
/-- What needs no cell may be added. -/
theorem St.add (hs : St h0 h F) (t : ∀ m, P m) : St h0 h (P :: F) := hs.conseq fun m s => ⟨fun _ _ => none, m, fun _ _ _ h => by simp at h, rle.refl _, fun _ _ _ _ h => by simp at h, t _, s⟩
theorem St.nil (hs : St h0 h F) (sz : Nat) : St h0 h (own sz none 0 0 [] :: F) := hs.add (own_nil sz)
theorem St.len {sz : Nat} {p : Option Addr} {l c : Nat} {vs : List Value} (hs : St h0 h (own sz p l c vs :: F)) : vs.length = l * sz ∧ l ≤ c ∧ c ≤ maxLen := hs.pure fun _ ⟨a, b, c, _⟩ => ⟨a, b, c⟩
theorem St.blen {p : Option Addr} {l c : Nat} {bs : List UInt8} (hs : St h0 h (own 1 p l c (bs.map bv) :: F)) : bs.length = l ∧ l ≤ c ∧ c ≤ maxLen := by
  have := hs.len
  simpa using this
/-- All that was ours is read alone from now on. -/
def shared (m : Res) : Res := fun b o => (m b o).map fun x => (x.1, true)
theorem St.share (hs : St h0 h (P :: F)) (t : ∀ m, P m → Q (shared m)) (ho : Owns P) : St h0 h (Q :: F) := by
  obtain ⟨e, m, ⟨m1', m2, a', b, c', p', s⟩, st, u⟩ := hs
  have p := ho _ p'
  have a : rle (flagged m1') m := (flagged_le _).trans a'
  have c : Comp (flagged m1') m2 := c'.le (flagged_le _) (rle.refl _)
  have key : ∀ x o y z, flagged m1' x o = some y → m2 x o = some z → False := fun x o y z h1 h2 => by
    have h3 := (c _ _ _ _ h1 h2).2
    unfold flagged at h1
    split at h1
    · cases h1; simp at h3
    · cases h1
  have cs : Comp (shared (flagged m1')) m2 := fun x o y z h1 h2 => by
    unfold shared at h1
    cases hf : flagged m1' x o with
    | none => simp [hf] at h1
    | some w => exact (key _ _ _ _ hf h2).elim
  refine ⟨e, radd (shared (flagged m1')) m2, ⟨shared (flagged m1'), m2, rle_left _ _, rle_right cs, cs, t _ p, s⟩, ?_, ?_⟩
  · intro x o v r hx
    unfold radd at hx
    split at hx
    · rename_i w ew
      cases hx
      unfold shared at ew
      cases hf : flagged m1' x o with
      | none => simp [hf] at ew
      | some y =>
        simp [hf] at ew
        obtain ⟨rfl, rfl⟩ := ew
        exact ⟨(st _ _ _ _ (a _ _ _ hf)).1, fun h => by cases h⟩
    · exact st _ _ _ _ (b _ _ _ hx)
  · intro x o v hx
    unfold radd at hx
    split at hx
    · rename_i w ew
      cases hx
      unfold shared at ew
      cases hf : flagged m1' x o <;> simp [hf] at ew
    · exact u _ _ _ (b _ _ _ hx)
theorem pts_shared {b o : Nat} {r : Bool} {vs : List Value} {m : Res} (p : pts b o r vs m) : pts b o true vs (shared m) := fun i v e => by unfold shared; rw [p i v e]; rfl
theorem own_shared {sz : Nat} {p : Option Addr} {l c : Nat} {vs : List Value} {m : Res} (q : own sz p l c vs m) : rdo sz p l vs (shared m) := by
  obtain ⟨a, b, c, d⟩ := q
  refine ⟨a, ?_⟩
  rcases d with ⟨rfl, rfl⟩ | ⟨x, o, rest, rfl, hr, hp⟩
  · have : l = 0 := by omega
    exact .inl (by rw [this]; simp)
  · exact .inr ⟨x, o, rfl, pts_shared (pts_app.1 hp).1⟩
theorem St.ro {sz : Nat} {p : Option Addr} {l c : Nat} {vs : List Value} (hs : St h0 h (own sz p l c vs :: F)) : St h0 h (rdo sz p l vs :: F) := hs.share (fun _ => own_shared) owns_own
/-- What is read alone may be had twice. -/
def Dup (P : HP) : Prop := ∀ m, P m → ∃ m', rle m' m ∧ P m' ∧ ∀ b o x, m' b o = some x → x.2 = true
theorem St.dup (hs : St h0 h (P :: F)) (d : Dup P) : St h0 h (P :: P :: F) := hs.conseq fun m ⟨m1, m2, a, b, c, p, s⟩ => by
  obtain ⟨m', le, p', all⟩ := d _ p
  refine ⟨m', m, le.trans a, rle.refl _, fun x o y z h1 h2 => ?_, p', m1, m2, a, b, c, p, s⟩
  have := a _ _ _ (le _ _ _ h1)
  rw [this] at h2
  cases h2
  exact ⟨rfl, all _ _ _ h1⟩
def tops (m : Res) : Res := fun b o => match m b o with | some (v, true) => some (v, true) | _ => none
theorem tops_le (m : Res) : rle (tops m) m := fun b o x h => by
  unfold tops at h
  split at h
  · rename_i v e; cases h; exact e
  · cases h
theorem tops_all (m : Res) : ∀ b o x, tops m b o = some x → x.2 = true := fun b o x h => by
  unfold tops at h
  split at h
  · cases h; rfl
  · cases h
theorem dup_of (t : ∀ m, P m → P (tops m)) : Dup P := fun m p => ⟨tops m, tops_le m, t m p, tops_all m⟩
theorem pts_tops {b o : Nat} {vs : List Value} {m : Res} (p : pts b o true vs m) : pts b o true vs (tops m) := fun i v e => by unfold tops; rw [p i v e]
theorem rdo_tops {sz : Nat} {p : Option Addr} {l : Nat} {vs : List Value} {m : Res} (q : rdo sz p l vs m) : rdo sz p l vs (tops m) :=
  ⟨q.1, q.2.imp id fun ⟨b, o, e, p⟩ => ⟨b, o, e, pts_tops p⟩⟩
theorem dup_rdo {sz : Nat} {p : Option Addr} {l : Nat} {vs : List Value} : Dup (rdo sz p l vs) := dup_of fun _ => rdo_tops
/-- What came in may be read by all. -/
theorem St.old {sz : Nat} {p : Option Addr} {l : Nat} {vs : List Value} (hs : St h0 h F) (hr : Rd h0 sz p l vs) : St h0 h (rdo sz p l vs :: F) := by
  by_cases hz : l * sz = 0
  · exact hs.add fun m => ⟨hr.1, .inl hz⟩
  · obtain ⟨a, rfl, _⟩ := hr.cell (i := 0) (by rw [hr.1]; omega)
    have hcell : ∀ i (hi : i < vs.length), cell h0 (a.add i) = some vs[i] := fun i hi => by
      obtain ⟨a', e, hc⟩ := hr.cell hi
      cases e; exact hc
    have hsp : a.spot = none := by
      have := hcell 0 (by rw [hr.1]; omega)
      unfold cell at this
      have hs0 : (a.add 0).spot = a.spot := by simp [Addr.add]
      rw [hs0] at this
      split at this
      · split at this
        · cases this
        · rename_i hn; simpa using hn
      · cases this
    obtain ⟨b, o, sp⟩ := a
    simp only at hsp
    subst hsp
    obtain ⟨e, m, s, t, u⟩ := hs
    let n : Res := fun b' o' => if b' = b ∧ o ≤ o' then (vs[o' - o]?).map (·, true) else none
    have hn : ∀ b' o' v r, n b' o' = some (v, r) → r = true ∧ cell h0 (Addr.mk b' o' none) = some v := fun b' o' v r hx => by
      simp only [n] at hx
      split at hx
      · rename_i hb
        obtain ⟨rfl, hle⟩ := hb
        cases hv : vs[o' - o]? with
        | none => simp [hv] at hx
        | some w =>
          simp [hv] at hx
          obtain ⟨rfl, rfl⟩ := hx
          obtain ⟨hlt, he⟩ := List.getElem?_eq_some_iff.1 hv
          have := hcell _ hlt
          rw [add_mk, show o + (o' - o) = o' by omega, he] at this
          exact ⟨rfl, this⟩
      · cases hx
    have hlt : ∀ b' o' x, n b' o' = some x → b' < h0.size := fun b' o' x hx => by
      have := (hn b' o' x.1 x.2 hx).2
      unfold cell at this
      by_cases hb : b' < h0.size
      · exact hb
      · rw [Array.getElem?_eq_none (by simpa using hb)] at this
        simp at this
    have c : Comp n m := fun x y z w h1 h2 => by
      have hz := hn _ _ z.1 z.2 h1
      have hb := hlt _ _ _ h1
      have hw := t _ _ w.1 w.2 h2
      rw [cell_same (a := Addr.mk x y none) (e x hb), hz.2] at hw
      have hv : z.1 = w.1 := by have := hw.1; simpa using this
      have hf : w.2 = true := by
        cases hw2 : w.2 with
        | true => rfl
        | false =>
          have := u x y w.1 (by rw [h2, ← hw2])
          omega
      exact ⟨Prod.ext hv (hz.1.trans hf.symm), hz.1⟩
    refine ⟨e, radd n m, ⟨n, m, rle_left _ _, rle_right c, c, ⟨hr.1, .inr ⟨b, o, rfl, fun i v hv => ?_⟩⟩, s⟩, ?_, ?_⟩
    · simp only [n]
      rw [if_pos (show True ∧ o ≤ o + i from ⟨trivial, by omega⟩), Nat.add_sub_cancel_left, hv]; rfl
    · intro x y v r hx
      unfold radd at hx
      split at hx
      · rename_i w ew
        have := hn _ _ _ _ (ew.trans hx)
        refine ⟨e.cell this.2, fun hf => by rw [this.1] at hf; cases hf⟩
      · exact t _ _ _ _ hx
    · intro x y v hx
      unfold radd at hx
      split at hx
      · rename_i w ew
        have := hn _ _ _ _ (ew.trans hx)
        cases this.1
      · exact u _ _ _ hx

/-- append, to what is ours. -/
theorem St.append {e : TypeId} {sz bytes : Nat} {zero : Array Value} {p q : Option Addr} {l c n : Nat} {vs xs : List Value} {K : Option Addr → Nat → Nat → Heap → Prop}
    (hs : St h0 h (own sz p l c vs :: F)) (hr : Rd h sz q n xs) (hone : ∀ v ∈ xs, v.oneCell' = true) (hzs : zero.size = sz) (hmax : (l + n) * bytes ≤ 140737488355328) (hml : l + n ≤ maxLen)
    (hk : ∀ p' c' h', St h0 h' (own sz p' (l + n) c' (vs ++ xs) :: F) → (p' = none → p = none ∧ n = 0) → K p' (l + n) c' h') :
    appendP e sz bytes zero p l c q n h K := by
  obtain ⟨h1, h2, h3⟩ := hs.len
  have hx := hr.1
  have hsrc := (rd_own hs.at).2
  refine ⟨xs.toArray, hr.2, by simpa [one] using hone, fun hc => ?_, fun hc => ⟨hml, hmax, vs.toArray, hsrc, fun c' b h' e1 e2 e3 e4 => ?_⟩⟩
  · have hcases : (p = none ∧ c = 0) ∨ ∃ b o rest, p = some (Addr.mk b o none) ∧ rest.length = (c - l) * sz ∧ St h0 h (pts b o false (vs ++ rest) :: F) := by
      obtain ⟨e, m, ⟨m1, m2, a, b, cc, ⟨_, _, _, d⟩, s⟩, t, u⟩ := hs
      rcases d with d | ⟨x, o, rest, h1, h2, h3⟩
      · exact .inl d
      · exact .inr ⟨x, o, rest, h1, h2, e, m, ⟨m1, m2, a, b, cc, h3, s⟩, t, u⟩
    rcases hcases with ⟨rfl, rfl⟩ | ⟨b, o, rest, rfl, hrl, hs'⟩
    · refine ⟨fun a ha => (by cases ha), fun h' e => ?_⟩
      simp only at e
      subst e
      have hl : l = 0 := by omega
      have hn : n = 0 := by omega
      subst hn
      have : xs = [] := List.eq_nil_of_length_eq_zero (by simpa using hx)
      subst this
      exact hk _ _ _ (by simpa using hs) (fun _ => ⟨rfl, rfl⟩)
    · have hm : (l + n) * sz ≤ c * sz := Nat.mul_le_mul_right sz hc
      rw [Nat.add_mul] at hm
      have hcl : (c - l) * sz = c * sz - l * sz := Nat.sub_mul _ _ _
      obtain ⟨s, w⟩ := St.putRow xs (vs ++ rest) h 0 (l * sz) hs' (by simp; omega)
      refine ⟨fun a ha k hk => ?_, fun h' e => ?_⟩
      · cases ha
        rw [add_mk, add_mk]
        exact w k (Nat.zero_le _) (by omega)
      · simp only [add_mk] at e
        subst e
        refine hk _ _ _ (s.impl fun m pm => ⟨by rw [List.length_append, h1, hx, Nat.add_mul], hc, h3, .inr ⟨b, o, rest.drop xs.length, rfl, ?_, ?_⟩⟩) (fun h0 => by cases h0)
        · have : (c - (l + n)) * sz = c * sz - (l * sz + n * sz) := by rw [Nat.sub_mul, Nat.add_mul]
          rw [List.length_drop, hrl, this]
          omega
        · have : lay (vs ++ rest) (l * sz + 0) xs = vs ++ xs ++ rest.drop xs.length := by
            unfold lay
            rw [Nat.add_zero, List.take_append_of_le_length (by omega), List.take_of_length_le (by omega), List.drop_append, List.drop_of_length_le (by omega)]
            rw [h1, Nat.add_sub_cancel_left]
            simp
          rw [this] at pm
          exact pm
  · subst e3; subst e4
    refine hk _ _ _ ?_ (fun h0 => by cases h0)
    have hnew : Vc.newBlk h e (vs.toArray ++ xs.toArray ++ Builtin.zeroCells zero (c' - (l + n))) fun b h' => b = h.size → h' = h.push (.cells (vs.toArray ++ xs.toArray ++ Builtin.zeroCells zero (c' - (l + n))) e) → St h0 h' (own sz (some ⟨b, 0, none⟩) (l + n) c' (vs ++ xs) :: F) := by
      refine hs.newBlk fun b h' hb s ex e1' e2' => ?_
      refine (s.up1.drop).impl fun m pm => ⟨by rw [List.length_append, h1, hx, Nat.add_mul], e1, e2, .inr ⟨b, 0, (Builtin.zeroCells zero (c' - (l + n))).toList, rfl, ?_, ?_⟩⟩
      · rw [Array.length_toList, size_zeroCells, hzs]
      · simpa using pm
    exact hnew _ _ rfl rfl rfl rfl
/-- A slice of what is ours, and the rest. -/
theorem own_split {sz : Nat} {p : Option Addr} {l c : Nat} {vs : List Value} {n : Nat} (hn : n ≤ l) (hs : St h0 h (own sz p l c vs :: F)) :
    St h0 h (own sz p n n (vs.take (n * sz)) :: own sz (if c = n then p else p.map (·.add (n * sz))) (l - n) (c - n) (vs.drop (n * sz)) :: F) := by
  obtain ⟨h1, h2, h3⟩ := hs.len
  have hnl : n * sz ≤ l * sz := Nat.mul_le_mul_right sz hn
  have hlc : l * sz ≤ c * sz := Nat.mul_le_mul_right sz h2
  refine St.flat (l := [_, _]) (hs.impl fun m ⟨_, _, _, d⟩ => ?_)
  rcases d with ⟨rfl, rfl⟩ | ⟨b, o, rest, rfl, hr, hp⟩
  · have : l = 0 := by omega
    have : n = 0 := by omega
    subst this
    exact ⟨fun _ _ => none, fun _ _ => none, fun _ _ _ h => by simp at h, fun _ _ _ h => by simp at h, fun _ _ _ _ h => by simp at h, ⟨by simp, Nat.le_refl _, Nat.zero_le _, .inl ⟨rfl, rfl⟩⟩,
      fun _ _ => none, fun _ _ => none, fun _ _ _ h => by simp at h, fun _ _ _ h => by simp at h, fun _ _ _ _ h => by simp at h, ⟨by simp; omega, by omega, by omega, .inl ⟨by simp, by omega⟩⟩, trivial⟩
  · have hsplit : vs ++ rest = vs.take (n * sz) ++ (vs.drop (n * sz) ++ rest) := by rw [← List.append_assoc, List.take_append_drop]
    rw [hsplit] at hp
    obtain ⟨p1, p2⟩ := pts_app.1 hp
    have htl : (vs.take (n * sz)).length = n * sz := by simp; omega
    rw [htl] at p2
    let cut (f : Nat → Bool) : Res := fun b' o' => if f o' then m b' o' else none
    have cle : ∀ f, rle (cut f) m := fun f b' o' x hx => by simp only [cut] at hx; split at hx; exact hx; cases hx
    refine ⟨cut (fun o' => decide (o' < o + n * sz)), cut (fun o' => decide (o + n * sz ≤ o')), cle _, cle _, ?_, ⟨by simp; omega, Nat.le_refl _, by omega, .inr ⟨b, o, [], rfl, by simp, ?_⟩⟩,
      _, fun _ _ => none, rle.refl _, fun _ _ _ h => by simp at h, fun _ _ _ _ _ h => by simp at h, ⟨?_, by omega, by omega, .inr ?_⟩, trivial⟩
    · intro x y z w h1 h2
      simp only [cut] at h1 h2
      split at h1
      · split at h2
        · rename_i a1 a2; simp at a1 a2; omega
        · cases h2
      · cases h1
    · intro i v e
      rw [List.append_nil] at e
      have hi := (List.getElem?_eq_some_iff.1 e).1
      simp only [cut]
      rw [if_pos (by simp; omega)]
      exact p1 i v e
    · rw [List.length_drop, h1, Nat.sub_mul]
    · by_cases hcn : c = n
      · rw [if_pos hcn]
        have hz : c - n - (l - n) = 0 := by omega
        refine ⟨b, o, [], rfl, by rw [hz]; simp, fun i v e => ?_⟩
        have : l = n := by omega
        subst this
        rw [List.append_nil, List.drop_of_length_le (by omega)] at e
        simp at e
      · rw [if_neg hcn]
        refine ⟨b, o + n * sz, rest, by simp [add_mk], ?_, fun i v e => ?_⟩
        · rw [hr]; congr 1; omega
        · simp only [cut]
          rw [if_pos (by simp)]
          exact p2 i v e
end
end Go.Vc
