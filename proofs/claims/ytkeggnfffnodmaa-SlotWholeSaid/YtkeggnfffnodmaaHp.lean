/- Heaps block by block: what is owned, what is left alone, and what the words of the formulas come to. It speaks of no program. -/
import Derived.Test.YtkeggnfffnodmaaVcO
set_option linter.unusedVariables false
namespace Go.Vc

/-- Block b holds these cells, and each may be written. -/
def Blk (h : Heap) (b : Nat) (cs : Array Value) : Prop := ∃ t f, h[b]? = some (.cells cs t f) ∧ (f.2 ≤ f.1 ∨ cs.size ≤ f.1)
/-- Nothing that was there has changed, but the blocks of S. -/
def Only (S : Nat → Prop) (h h' : Heap) : Prop := h.size ≤ h'.size ∧ ∀ b, b < h.size → ¬ S b → h'[b]? = h[b]?

theorem Only.refl (S : Nat → Prop) (h : Heap) : Only S h h := ⟨Nat.le_refl _, fun _ _ _ => rfl⟩
theorem Only.trans {S T U : Nat → Prop} {h h' h'' : Heap} (a : Only S h h') (b : Only T h' h'') (hs : ∀ x, S x → U x) (ht : ∀ x, x < h.size → T x → U x) : Only U h h'' :=
  ⟨Nat.le_trans a.1 b.1, fun x hx hu => (b.2 x (Nat.lt_of_lt_of_le hx a.1) (fun h => hu (ht x hx h))).trans (a.2 x hx (fun h => hu (hs x h)))⟩
theorem Only.mono {S T : Nat → Prop} {h h' : Heap} (a : Only S h h') (hs : ∀ x, x < h.size → S x → T x) : Only T h h' :=
  ⟨a.1, fun x hx hu => a.2 x hx (fun h => hu (hs x hx h))⟩
theorem Ext.only {h h' : Heap} (e : Ext h h') (S : Nat → Prop) : Only S h h' := ⟨e.size, fun b hb _ => e b hb⟩
theorem Only.ext {S : Nat → Prop} {h h' : Heap} (a : Only S h h') (hs : ∀ x, x < h.size → ¬ S x) : Ext h h' := fun b hb => a.2 b hb (hs b hb)

theorem Blk.lt {h : Heap} {b : Nat} {cs : Array Value} (hb : Blk h b cs) : b < h.size := by
  obtain ⟨t, f, e, _⟩ := hb
  exact (Array.getElem?_eq_some_iff.1 e).1
theorem Blk.same {h h' : Heap} {b : Nat} {cs : Array Value} (hb : Blk h b cs) (e : h'[b]? = h[b]?) : Blk h' b cs := by
  obtain ⟨t, f, e1, e2⟩ := hb
  exact ⟨t, f, e.trans e1, e2⟩
theorem Blk.only {S : Nat → Prop} {h h' : Heap} {b : Nat} {cs : Array Value} (hb : Blk h b cs) (o : Only S h h') (hs : ¬ S b) : Blk h' b cs := hb.same (o.2 b hb.lt hs)
theorem Blk.ext {h h' : Heap} {b : Nat} {cs : Array Value} (hb : Blk h b cs) (o : Ext h h') : Blk h' b cs := hb.same (o b hb.lt)
theorem Blk.inj {h : Heap} {b : Nat} {cs cs' : Array Value} (hb : Blk h b cs) (hb' : Blk h b cs') : cs = cs' := by
  obtain ⟨t, f, e, _⟩ := hb
  obtain ⟨t', f', e', _⟩ := hb'
  rw [e] at e'
  cases e'
  rfl

theorem add_mk (b o n : Nat) : (Addr.mk b o none).add n = Addr.mk b (o + n) none := by
  unfold Addr.add
  split
  · rename_i h; subst h; rfl
  · rfl

theorem Blk.cell {h : Heap} {b : Nat} {cs : Array Value} (hb : Blk h b cs) (i : Nat) : Vc.cell h (Addr.mk b i none) = cs[i]? := by
  obtain ⟨t, f, e, _⟩ := hb
  simp [Vc.cell, e]
theorem Blk.wrt {h : Heap} {b : Nat} {cs : Array Value} (hb : Blk h b cs) {i : Nat} (hi : i < cs.size) : Vc.wrt h (Addr.mk b i none) := by
  refine ⟨by rw [hb.cell]; simp [hi], ?_⟩
  obtain ⟨t, f, e, hf⟩ := hb
  obtain ⟨lo, hi'⟩ := f
  unfold frz
  rw [e]
  simp only at hf ⊢
  simp
  omega

theorem put_size (h : Heap) (a : Addr) (v : Value) : (put h a v).size = h.size := by simp [put]
theorem put_other {h : Heap} {a : Addr} {v : Value} {b : Nat} (hb : a.block ≠ b) : (put h a v)[b]? = h[b]? := by
  unfold put
  rw [Array.getElem?_modify]
  simp [hb]
theorem Blk.put {h : Heap} {b : Nat} {cs : Array Value} (hb : Blk h b cs) (i : Nat) (v : Value) : Blk (Vc.put h (Addr.mk b i none) v) b (cs.setIfInBounds i v) := by
  obtain ⟨t, f, e, hf⟩ := hb
  refine ⟨t, f, ?_, by simpa using hf⟩
  unfold Vc.put
  rw [Array.getElem?_modify]
  simp [e]
theorem only_put (h : Heap) (b i : Nat) (v : Value) : Only (· = b) h (put h (Addr.mk b i none) v) :=
  ⟨by rw [put_size]; exact Nat.le_refl _, fun x _ hx => put_other (fun e => hx e.symm)⟩

/- ### One cell stored -/
theorem storeP_blk {h : Heap} {b i : Nat} {cs : Array Value} {v : Value} {K : Heap → Prop} (hb : Blk h b cs) (hi : i < cs.size) (hv : v.oneCell' = true)
    (hk : ∀ h', Blk h' b (cs.setIfInBounds i v) → Only (· = b) h h' → h'.size = h.size → K h') : storeP none h (Addr.mk b i none) v K :=
  ⟨hv, hb.wrt hi, fun h' e => by subst e; exact hk _ (hb.put i v) (only_put h b i v) (put_size h _ _)⟩

/- ### New memory -/
theorem newBlk_blk {h : Heap} {t : TypeId} {cs : Array Value} {K : Nat → Heap → Prop}
    (hk : ∀ h', Blk h' h.size cs → Ext h h' → h'.size = h.size + 1 → K h.size h') : newBlk h t cs K := by
  intro b h' e1 e2
  subst e1; subst e2
  exact hk _ ⟨t, (0, 0), by simp, .inl (Nat.le_refl _)⟩ (Ext.push h _) (by simp)

/- ### Rows -/
theorem rowFrom_blk {h : Heap} {b : Nat} {cs : Array Value} (hb : Blk h b cs) (o : Nat) : ∀ (n i : Nat), o + i + n ≤ cs.size → rowFrom h (Addr.mk b o none) i n = some ((cs.toList.drop (o + i)).take n)
  | 0, i, _ => by simp [rowFrom]
  | n + 1, i, hle => by
    unfold rowFrom
    rw [add_mk, hb.cell]
    have hlt : o + i < cs.size := by omega
    simp only [Array.getElem?_eq_getElem hlt]
    rw [rowFrom_blk hb o n (i + 1) (by omega)]
    simp only [Option.map_some]
    have : cs.toList.drop (o + i) = cs[o + i] :: cs.toList.drop (o + (i + 1)) := by
      rw [List.drop_eq_getElem_cons (by simpa using hlt)]
      simp [Nat.add_assoc]
    rw [this, List.take_succ_cons]
theorem row_blk {h : Heap} {b : Nat} {cs : Array Value} (hb : Blk h b cs) {o n : Nat} (hle : o + n ≤ cs.size) : row h (Addr.mk b o none) n = some ((cs.toList.drop o).take n).toArray := by
  unfold row
  rw [rowFrom_blk hb o n 0 (by omega)]
  rfl
theorem row_all {h : Heap} {b : Nat} {cs : Array Value} (hb : Blk h b cs) {n : Nat} (hn : cs.size = n) : row h (Addr.mk b 0 none) n = some cs := by
  rw [row_blk hb (by omega)]
  subst hn
  congr 1
  apply Array.toList_inj.1
  simp only [List.drop_zero]
  exact List.take_of_length_le (by simp)

theorem putRow_size (a : Addr) : ∀ (l : List Value) (h : Heap) (i : Nat), (putRow h a i l).size = h.size
  | [], h, i => rfl
  | v :: r, h, i => by unfold putRow; rw [putRow_size a r, put_size]
theorem putRow_other {a : Addr} {b : Nat} (hb : a.block ≠ b) : ∀ (l : List Value) (h : Heap) (i : Nat), (putRow h a i l)[b]? = h[b]?
  | [], h, i => rfl
  | v :: r, h, i => by
    unfold putRow
    rw [putRow_other hb r]
    refine put_other ?_
    unfold Addr.add
    split
    · exact hb
    · exact hb
/-- Cells put in the place of others. -/
def splice (cs : Array Value) (o : Nat) (l : List Value) : Array Value := (cs.toList.take o ++ (l ++ cs.toList.drop (o + l.length))).toArray
theorem splice_size {cs : Array Value} {o : Nat} {l : List Value} (h : o + l.length ≤ cs.size) : (splice cs o l).size = cs.size := by
  simp [splice]; omega
theorem Blk.putRow {b o : Nat} : ∀ (l : List Value) (h : Heap) (cs : Array Value) (i : Nat), Blk h b cs → o + i + l.length ≤ cs.size → Blk (Vc.putRow h (Addr.mk b o none) i l) b (splice cs (o + i) l)
  | [], h, cs, i, hb, _ => by
    have : splice cs (o + i) [] = cs := by apply Array.toList_inj.1; simp [splice]
    rw [this]; exact hb
  | v :: r, h, cs, i, hb, hle => by
    simp only [List.length_cons] at hle
    unfold Vc.putRow
    rw [add_mk]
    have := Blk.putRow (b := b) (o := o) r (Vc.put h (Addr.mk b (o + i) none) v) (cs.setIfInBounds (o + i) v) (i + 1) (hb.put _ _) (by simp; omega)
    have e : splice (cs.setIfInBounds (o + i) v) (o + (i + 1)) r = splice cs (o + i) (v :: r) := by
      apply Array.toList_inj.1
      simp only [splice, Array.toList_setIfInBounds, List.length_cons]
      rw [show o + (i + 1) = o + i + 1 from by omega, List.take_succ_eq_append_getElem (by simp; omega), List.take_set, List.set_eq_of_length_le (by simp; omega)]
      rw [List.drop_set_of_lt (by omega), show o + i + 1 + r.length = o + i + (r.length + 1) from by omega]
      simp
    rw [← e]; exact this
theorem only_putRow (h : Heap) (b o i : Nat) (l : List Value) : Only (· = b) h (putRow h (Addr.mk b o none) i l) :=
  ⟨by rw [putRow_size]; exact Nat.le_refl _, fun x _ hx => putRow_other (fun e => hx e.symm) _ _ _⟩
theorem Blk.wrtRow {h : Heap} {b o n : Nat} {cs : Array Value} (hb : Blk h b cs) (hle : o + n ≤ cs.size) : Vc.wrtRow h (Addr.mk b o none) n :=
  fun i hi => by rw [add_mk]; exact hb.wrt (by omega)
theorem storeP_row {h : Heap} {b o n : Nat} {cs : Array Value} {v : Value} {K : Heap → Prop} (hb : Blk h b cs) (hn : v.cells.size = n) (hle : o + n ≤ cs.size) (hv : one v.cells)
    (hk : ∀ h', Blk h' b (splice cs o v.cells.toList) → Only (· = b) h h' → h'.size = h.size → K h') : storeP (some n) h (Addr.mk b o none) v K :=
  ⟨hn, hv, hb.wrtRow (by omega), fun h' e => by
    subst e
    have := Blk.putRow (b := b) (o := o) v.cells.toList h cs 0 hb (by simp; omega)
    exact hk _ this (only_putRow h b o 0 _) (putRow_size _ _ _ _)⟩

/- ### Slices -/
/-- What a slice holds, readable. -/
def Rd (h : Heap) (sz : Nat) (p : Option Addr) (l : Nat) (vs : List Value) : Prop := vs.length = l * sz ∧ src h p (l * sz) = some vs.toArray
/-- A slice whose cells, to the capacity, are there to be written. -/
def Own (h : Heap) (sz : Nat) (p : Option Addr) (l c : Nat) (vs : List Value) : Prop :=
  vs.length = l * sz ∧ l ≤ c ∧ c ≤ maxLen ∧ ((p = none ∧ c = 0) ∨ ∃ b o cs, p = some (Addr.mk b o none) ∧ Blk h b cs ∧ o + c * sz ≤ cs.size ∧ (cs.toList.drop o).take (l * sz) = vs)
def inBlk (p : Option Addr) (b : Nat) : Prop := ∃ o, p = some (Addr.mk b o none)

theorem Own.rd {h : Heap} {sz : Nat} {p : Option Addr} {l c : Nat} {vs : List Value} (ho : Own h sz p l c vs) : Rd h sz p l vs := by
  obtain ⟨h1, h2, h3, h4⟩ := ho
  refine ⟨h1, ?_⟩
  rcases h4 with ⟨rfl, rfl⟩ | ⟨b, o, cs, rfl, hb, hle, ht⟩
  · have : l = 0 := by omega
    subst this
    have : vs = [] := List.eq_nil_of_length_eq_zero (by simpa using h1)
    subst this
    rfl
  · simp only [src]
    rw [row_blk hb (by have := Nat.mul_le_mul_right sz h2; omega), ht]
theorem Own.nil (h : Heap) (sz : Nat) : Own h sz none 0 0 [] := ⟨by simp, Nat.le_refl _, Nat.zero_le _, .inl ⟨rfl, rfl⟩⟩
theorem Own.same {h h' : Heap} {sz : Nat} {p : Option Addr} {l c : Nat} {vs : List Value} (ho : Own h sz p l c vs) (e : ∀ b, inBlk p b → h'[b]? = h[b]?) : Own h' sz p l c vs := by
  obtain ⟨h1, h2, h3, h4⟩ := ho
  refine ⟨h1, h2, h3, ?_⟩
  rcases h4 with h4 | ⟨b, o, cs, rfl, hb, hle, ht⟩
  · exact .inl h4
  · exact .inr ⟨b, o, cs, rfl, hb.same (e b ⟨o, rfl⟩), hle, ht⟩
theorem Own.lt {h : Heap} {sz : Nat} {p : Option Addr} {l c : Nat} {vs : List Value} (ho : Own h sz p l c vs) {b : Nat} (hb : inBlk p b) : b < h.size := by
  obtain ⟨h1, h2, h3, h4⟩ := ho
  obtain ⟨o, rfl⟩ := hb
  rcases h4 with ⟨h4, _⟩ | ⟨b', o', cs, e, hb, _⟩
  · cases h4
  · cases e; exact hb.lt
theorem Own.only {S : Nat → Prop} {h h' : Heap} {sz : Nat} {p : Option Addr} {l c : Nat} {vs : List Value} (ho : Own h sz p l c vs) (o : Only S h h') (hs : ∀ b, inBlk p b → ¬ S b) : Own h' sz p l c vs :=
  ho.same fun b hb => o.2 b (ho.lt hb) (hs b hb)
theorem Own.ext {h h' : Heap} {sz : Nat} {p : Option Addr} {l c : Nat} {vs : List Value} (ho : Own h sz p l c vs) (o : Ext h h') : Own h' sz p l c vs := ho.same fun b hb => o b (ho.lt hb)

theorem src_ext {h h' : Heap} (e : Ext h h') {p : Option Addr} {n : Nat} {cs : Array Value} (hs : src h p n = some cs) : src h' p n = some cs := by
  cases p with
  | none => exact hs
  | some a => exact e.row hs
theorem Rd.ext {h h' : Heap} {sz : Nat} {p : Option Addr} {l : Nat} {vs : List Value} (hr : Rd h sz p l vs) (e : Ext h h') : Rd h' sz p l vs := ⟨hr.1, src_ext e hr.2⟩
theorem rowFrom_same {h h' : Heap} {a : Addr} (e : h'[a.block]? = h[a.block]?) : ∀ (n i : Nat), rowFrom h' a i n = rowFrom h a i n
  | 0, i => rfl
  | n + 1, i => by
    have hc : cell h' (a.add i) = cell h (a.add i) := by
      have hb : (a.add i).block = a.block := by unfold Addr.add; split <;> rfl
      unfold cell
      rw [hb, e]
    unfold rowFrom
    rw [hc, rowFrom_same e n (i + 1)]
theorem Rd.same {h h' : Heap} {sz : Nat} {p : Option Addr} {l : Nat} {vs : List Value} (hr : Rd h sz p l vs) (e : ∀ a, p = some a → h'[a.block]? = h[a.block]?) : Rd h' sz p l vs := by
  refine ⟨hr.1, ?_⟩
  have := hr.2
  cases p with
  | none => exact this
  | some a =>
    simp only [src, row] at this ⊢
    rw [rowFrom_same (e a rfl)]
    exact this
theorem Rd.nil (h : Heap) (sz : Nat) : Rd h sz none 0 [] := ⟨by simp, by simp [src]⟩

/-- append, to what is owned. -/
theorem append_own {h : Heap} {e : TypeId} {sz bytes : Nat} {zero : Array Value} {p q : Option Addr} {l c n : Nat} {vs xs : List Value} {K : Option Addr → Nat → Nat → Heap → Prop}
    (ho : Own h sz p l c vs) (hr : Rd h sz q n xs) (hone : ∀ v ∈ xs, v.oneCell' = true) (hzs : zero.size = sz) (hsz : 0 < sz) (hmax : (l + n) * bytes ≤ 140737488355328) (hml : l + n ≤ maxLen)
    (hk : ∀ p' c' h', Own h' sz p' (l + n) c' (vs ++ xs) → Only (inBlk p) h h' → (∀ b, inBlk p' b → inBlk p b ∨ h.size ≤ b) → (p' = none → p = none ∧ n = 0) → K p' (l + n) c' h') :
    appendP e sz bytes zero p l c q n h K := by
  have hsrc := ho.rd.2
  obtain ⟨h1, h2, h3, h4⟩ := ho
  refine ⟨xs.toArray, hr.2, by simpa [one] using hone, fun hc => ?_, fun hc => ⟨hml, hmax, vs.toArray, hsrc, fun c' b h' e1 e2 e3 e4 => ?_⟩⟩
  · rcases h4 with ⟨rfl, rfl⟩ | ⟨b, o, cs, rfl, hb, hle, ht⟩
    · refine ⟨fun a ha => (by cases ha), fun h' e => ?_⟩
      simp only at e
      subst e
      have hn : n = 0 := by omega
      subst hn
      have : xs = [] := List.eq_nil_of_length_eq_zero (by simpa using hr.1)
      subst this
      exact hk _ _ _ ⟨by simpa using h1, by omega, h3, .inl ⟨rfl, rfl⟩⟩ (Only.refl _ _) (fun b hb => .inl hb) (fun _ => ⟨rfl, rfl⟩)
    · have hm := Nat.mul_le_mul_right sz hc
      rw [Nat.add_mul] at hm
      refine ⟨fun a ha => (by cases ha; rw [add_mk]; exact hb.wrtRow (by omega)), fun h' e => ?_⟩
      simp only [add_mk] at e
      subst e
      have hxl := hr.1
      have hb' := Blk.putRow (b := b) (o := o + l * sz) xs h cs 0 hb (by omega)
      refine hk _ _ _ ⟨by rw [List.length_append, h1, hxl, Nat.add_mul], hc, h3, .inr ⟨b, o, _, rfl, by simpa using hb', ?_, ?_⟩⟩ ((only_putRow h b _ 0 xs).mono fun x _ hx => by subst hx; exact ⟨o, rfl⟩) (fun b hb => .inl hb) (fun h0 => by cases h0)
      · rw [splice_size (by omega)]; omega
      · simp only [splice, Nat.add_mul]
        have ht' : cs.toList.take (o + l * sz) = cs.toList.take o ++ vs := by
          rw [← ht, List.take_add]
        rw [ht', List.append_assoc, List.drop_append]
        have hol : (cs.toList.take o).length = o := by simp; omega
        rw [hol, List.drop_of_length_le (by omega), Nat.sub_self, List.drop_zero, List.nil_append, ← List.append_assoc]
        rw [List.take_append_of_le_length (by rw [List.length_append]; omega)]
        exact List.take_of_length_le (by rw [List.length_append]; omega)
  · subst e3; subst e4
    refine hk _ _ _ ⟨by rw [List.length_append, h1, hr.1, Nat.add_mul], e1, e2, .inr ⟨h.size, 0, vs.toArray ++ xs.toArray ++ Builtin.zeroCells zero (c' - (l + n)), rfl, ⟨e, (0, 0), by simp, .inl (Nat.le_refl _)⟩, ?_, ?_⟩⟩ ((Ext.push h _).only _) (fun b hb => .inr (by obtain ⟨o, ho⟩ := hb; cases ho; exact Nat.le_refl _)) (fun h0 => by cases h0)
    · simp only [Array.size_append, List.size_toArray, size_zeroCells, hzs, h1, hr.1]
      rw [← Nat.add_mul, ← Nat.add_mul]
      have : (l + n + (c' - (l + n))) = c' := by omega
      rw [this]; omega
    · simp only [Array.toList_append, List.drop_zero]
      rw [List.take_append_of_le_length (by simp [h1, hr.1, Nat.add_mul])]
      exact List.take_of_length_le (by simp [h1, hr.1, Nat.add_mul])

/- ### Bytes -/
def bv (b : UInt8) : Value := .int .u8 (b.toNat : Int)
theorem bv_one (b : UInt8) : (bv b).oneCell' = true := rfl
theorem bvs_one (l : List UInt8) : ∀ v ∈ l.map bv, v.oneCell' = true := by
  intro v hv
  obtain ⟨b, _, rfl⟩ := List.mem_map.1 hv
  rfl
/-- A slice of bytes, readable. -/
def Bs (h : Heap) (p : Option Addr) (l : Nat) (bs : List UInt8) : Prop := bs.length = l ∧ Rd h 1 p l (bs.map bv)

/- ### Words of the formulas, laid open -/
theorem br_true (X Y : Prop) : br true X Y = X := rfl
theorem br_false (X Y : Prop) : br false X Y = Y := rfl
theorem br_not (t : Bool) (X Y : Prop) : br (!t) X Y = br t Y X := by cases t <;> rfl
theorem br_decide {p : Prop} [Decidable p] {X Y : Prop} : br (decide p) X Y ↔ (p → X) ∧ (¬ p → Y) := by
  by_cases h : p <;> simp [h, br]
theorem br_beq {a b : Int} {X Y : Prop} : br (a == b) X Y ↔ (a = b → X) ∧ (a ≠ b → Y) := by
  by_cases h : a = b
  · subst h; simp [br]
  · have : (a == b) = false := by simpa using h
    simp [this, h, br]
theorem br_bne {a b : Int} {X Y : Prop} : br (a != b) X Y ↔ (a ≠ b → X) ∧ (a = b → Y) := by
  by_cases h : a = b
  · subst h; simp [br]
  · have : (a != b) = true := by simpa using h
    simp [this, h, br]
theorem br_and {t : Bool} {X Y : Prop} : br t X Y ↔ (t = true → X) ∧ (t = false → Y) := by cases t <;> simp [br]
theorem br_yes {t : Bool} {X Y : Prop} (h : t = true) (hx : X) : br t X Y := by subst h; exact hx
theorem br_no {t : Bool} {X Y : Prop} (h : t = false) (hy : Y) : br t X Y := by subst h; exact hy
theorem deref_some (a : Addr) (K : Addr → Prop) : deref (some a) K = K a := rfl
theorem deref_none (K : Addr → Prop) : deref none K = False := rfl

/- ### Numbers -/
theorem wrap_i64 {n : Int} (h1 : -9223372036854775808 ≤ n) (h2 : n ≤ 9223372036854775807) : IntKind.i64.wrap n = n := by
  unfold IntKind.wrap IntKind.bits IntKind.signed
  simp only
  by_cases h : 0 ≤ n
  · rw [Int.emod_eq_of_lt h (by omega)]
    simp; omega
  · have : n % (2 ^ 64 : Int) = n + 2 ^ 64 := by
      rw [← Int.add_emod_right, Int.emod_eq_of_lt (by omega) (by omega)]
    rw [this]
    simp; omega
theorem wrap_u8 (n : Int) : IntKind.u8.wrap n = n % 256 := by simp [IntKind.wrap, IntKind.bits, IntKind.signed]
theorem wrap_u16 (n : Int) : IntKind.u16.wrap n = n % 65536 := by simp [IntKind.wrap, IntKind.bits, IntKind.signed]
theorem wrap_u32 (n : Int) : IntKind.u32.wrap n = n % 4294967296 := by simp [IntKind.wrap, IntKind.bits, IntKind.signed]
theorem wrap_u64 (n : Int) : IntKind.u64.wrap n = n % 18446744073709551616 := by simp [IntKind.wrap, IntKind.bits, IntKind.signed]
theorem byte_of_int (n : Nat) : bv (UInt8.ofNat n) = .int .u8 ((n % 256 : Nat) : Int) := by
  simp [bv]

/- ### What an object turns into: its blocks are of those that it had, or new -/
def From (S S' : Nat → Prop) (h : Heap) : Prop := ∀ x, S' x → S x ∨ h.size ≤ x
theorem From.refl (S : Nat → Prop) (h : Heap) : From S S h := fun _ hx => .inl hx
theorem From.trans {S S' S'' : Nat → Prop} {h h' : Heap} (a : From S S' h) (b : From S' S'' h') (hs : h.size ≤ h'.size) : From S S'' h := fun x hx => by
  rcases b x hx with hx | hx
  · exact a x hx
  · exact .inr (by omega)
/-- Only those blocks have changed, by way of what the object has turned into. -/
theorem Only.step {S S' : Nat → Prop} {h h' h'' : Heap} (a : Only S h h') (f : From S S' h) (b : Only S' h' h'') : Only S h h'' :=
  a.trans b (fun _ h => h) (fun x hx hs => (f x hs).resolve_right (by omega))
theorem CallsH.of {P : Program} {f : FuncId} {args : Array Value} {h : Heap} {R R' : Value → Heap → Prop} (hh : CallsH P f args h R) (hr : ∀ v h', R v h' → R' v h') : CallsH P f args h R' := hh.mono hr
end Go.Vc
