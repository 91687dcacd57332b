/- Heaps block by block: what is owned, what is left alone, and what the words of the formulas come to. It speaks of no program. -/
import Derived.Test.YthlmiijlhiiccaaGreatV
import Derived.Below
set_option linter.unusedVariables false
namespace Go.Vc

/-- Block b holds these cells, and each may be written. -/
def Blk (h : Heap) (b : Nat) (cs : Array Value) : Prop := ∃ t f, h[b]? = some (.cells cs t f) ∧ (f.2 ≤ f.1 ∨ cs.size ≤ f.1)
/-- Nothing that was there has changed, but the blocks of S. -/
def Only (S : Nat → Prop) (h h' : Heap) : Prop := h.size ≤ h'.size ∧ ∀ b, b < h.size → ¬ S b → h'[b]? = h[b]?

theorem Only.refl (S : Nat → Prop) (h : Heap) : Only S h h := ⟨Nat.le_refl _, fun _ _ _ => rfl⟩
theorem Only.trans {S T U : Nat → Prop} {h h' h'' : Heap} (a : Only S h h') (b : Only T h' h'') (hs : ∀ x, S x → U x) (ht : ∀ x, x < h.size → T x → U x) : Only U h h'' :=
  ⟨Nat.le_trans a.1 b.1, fun x hx hu => (b.2 x (Nat.lt_of_lt_of_le hx a.1) (fun h => hu (ht x hx h))).trans (a.2 x hx (fun h => hu (hs x h)))⟩
theorem Only.mono {S T : Nat → Prop} {h h' : Heap} (a : Only S h h') (hs : ∀ x, x < h.size → S x → T x) : Only T h h' :=
  ⟨a.1, fun x hx hu => a.2 x hx (fun h => hu (hs x hx h))⟩
theorem Ext.only {h h' : Heap} (e : Ext h h') (S : Nat → Prop) : Only S h h' := ⟨e.size, fun b hb _ => e b hb⟩
theorem Only.ext {S : Nat → Prop} {h h' : Heap} (a : Only S h h') (hs : ∀ x, x < h.size → ¬ S x) : Ext h h' := fun b hb => a.2 b hb (hs b hb)

theorem Blk.lt {h : Heap} {b : Nat} {cs : Array Value} (hb : Blk h b cs) : b < h.size := by
  obtain ⟨t, f, e, _⟩ := hb
  exact (Array.getElem?_eq_some_iff.1 e).1
theorem Blk.same {h h' : Heap} {b : Nat} {cs : Array Value} (hb : Blk h b cs) (e : h'[b]? = h[b]?) : Blk h' b cs := by
  obtain ⟨t, f, e1, e2⟩ := hb
  exact ⟨t, f, e.trans e1, e2⟩
theorem Blk.only {S : Nat → Prop} {h h' : Heap} {b : Nat} {cs : Array Value} (hb : Blk h b cs) (o : Only S h h') (hs : ¬ S b) : Blk h' b cs := hb.same (o.2 b hb.lt hs)
theorem Blk.ext {h h' : Heap} {b : Nat} {cs : Array Value} (hb : Blk h b cs) (o : Ext h h') : Blk h' b cs := hb.same (o b hb.lt)
theorem Blk.inj {h : Heap} {b : Nat} {cs cs' : Array Value} (hb : Blk h b cs) (hb' : Blk h b cs') : cs = cs' := by
  obtain ⟨t, f, e, _⟩ := hb
  obtain ⟨t', f', e', _⟩ := hb'
  rw [e] at e'
  cases e'
  rfl

theorem add_mk (b o n : Nat) : (Addr.mk b o none).add n = Addr.mk b (o + n) none := by
  unfold Addr.add
  split
  · rename_i h; subst h; rfl
  · rfl

theorem Blk.cell {h : Heap} {b : Nat} {cs : Array Value} (hb : Blk h b cs) (i : Nat) : Vc.cell h (Addr.mk b i none) = cs[i]? := by
  obtain ⟨t, f, e, _⟩ := hb
  simp [Vc.cell, e]
theorem Blk.wrt {h : Heap} {b : Nat} {cs : Array Value} (hb : Blk h b cs) {i : Nat} (hi : i < cs.size) : Vc.wrt h (Addr.mk b i none) := by
  refine ⟨by rw [hb.cell]; simp [hi], ?_⟩
  obtain ⟨t, f, e, hf⟩ := hb
  obtain ⟨lo, hi'⟩ := f
  unfold frz
  rw [e]
  simp only at hf ⊢
  simp
  omega

theorem put_size (h : Heap) (a : Addr) (v : Value) : (put h a v).size = h.size := by simp [put]
theorem put_other {h : Heap} {a : Addr} {v : Value} {b : Nat} (hb : a.block ≠ b) : (put h a v)[b]? = h[b]? := by
  unfold put
  rw [Array.getElem?_modify]
  simp [hb]
theorem Blk.put {h : Heap} {b : Nat} {cs : Array Value} (hb : Blk h b cs) (i : Nat) (v : Value) : Blk (Vc.put h (Addr.mk b i none) v) b (cs.setIfInBounds i v) := by
  obtain ⟨t, f, e, hf⟩ := hb
  refine ⟨t, f, ?_, by simpa using hf⟩
  unfold Vc.put
  rw [Array.getElem?_modify]
  simp [e]
theorem only_put (h : Heap) (b i : Nat) (v : Value) : Only (· = b) h (put h (Addr.mk b i none) v) :=
  ⟨by rw [put_size]; exact Nat.le_refl _, fun x _ hx => put_other (fun e => hx e.symm)⟩

/- ### One cell stored -/
theorem storeP_blk {h : Heap} {b i : Nat} {cs : Array Value} {v : Value} {K : Heap → Prop} (hb : Blk h b cs) (hi : i < cs.size) (hv : v.oneCell' = true)
    (hk : ∀ h', Blk h' b (cs.setIfInBounds i v) → Only (· = b) h h' → h'.size = h.size → K h') : storeP none h (Addr.mk b i none) v K :=
  ⟨hv, hb.wrt hi, fun h' e => by subst e; exact hk _ (hb.put i v) (only_put h b i v) (put_size h _ _)⟩

/- ### New memory -/
theorem newBlk_blk {h : Heap} {t : TypeId} {cs : Array Value} {K : Nat → Heap → Prop}
    (hk : ∀ h', Blk h' h.size cs → Ext h h' → h'.size = h.size + 1 → K h.size h') : newBlk h t cs K := by
  intro b h' e1 e2
  subst e1; subst e2
  exact hk _ ⟨t, (0, 0), by simp, .inl (Nat.le_refl _)⟩ (Ext.push h _) (by simp)

/- ### Rows -/
theorem rowFrom_blk {h : Heap} {b : Nat} {cs : Array Value} (hb : Blk h b cs) (o : Nat) : ∀ (n i : Nat), o + i + n ≤ cs.size → rowFrom h (Addr.mk b o none) i n = some ((cs.toList.drop (o + i)).take n)
  | 0, i, _ => by simp [rowFrom]
  | n + 1, i, hle => by
    unfold rowFrom
    rw [add_mk, hb.cell]
    have hlt : o + i < cs.size := by omega
    simp only [Array.getElem?_eq_getElem hlt]
    rw [rowFrom_blk hb o n (i + 1) (by omega)]
    simp only [Option.map_some]
    have : cs.toList.drop (o + i) = cs[o + i] :: cs.toList.drop (o + (i + 1)) := by
      rw [List.drop_eq_getElem_cons (by simpa using hlt)]
      simp [Nat.add_assoc]
    rw [this, List.take_succ_cons]
theorem row_blk {h : Heap} {b : Nat} {cs : Array Value} (hb : Blk h b cs) {o n : Nat} (hle : o + n ≤ cs.size) : row h (Addr.mk b o none) n = some ((cs.toList.drop o).take n).toArray := by
  unfold row
  rw [rowFrom_blk hb o n 0 (by omega)]
  rfl
theorem row_all {h : Heap} {b : Nat} {cs : Array Value} (hb : Blk h b cs) {n : Nat} (hn : cs.size = n) : row h (Addr.mk b 0 none) n = some cs := by
  rw [row_blk hb (by omega)]
  subst hn
  congr 1
  apply Array.toList_inj.1
  simp only [List.drop_zero]
  exact List.take_of_length_le (by simp)

theorem putRow_size (a : Addr) : ∀ (l : List Value) (h : Heap) (i : Nat), (putRow h a i l).size = h.size
  | [], h, i => rfl
  | v :: r, h, i => by unfold putRow; rw [putRow_size a r, put_size]
theorem putRow_other {a : Addr} {b : Nat} (hb : a.block ≠ b) : ∀ (l : List Value) (h : Heap) (i : Nat), (putRow h a i l)[b]? = h[b]?
  | [], h, i => rfl
  | v :: r, h, i => by
    unfold putRow
    rw [putRow_other hb r]
    refine put_other ?_
    unfold Addr.add
    split
    · exact hb
    · exact hb
/-- Cells put in the place of others. -/
def splice (cs : Array Value) (o : Nat) (l : List Value) : Array Value := (cs.toList.take o ++ (l ++ cs.toList.drop (o + l.length))).toArray
theorem splice_size {cs : Array Value} {o : Nat} {l : List Value} (h : o + l.length ≤ cs.size) : (splice cs o l).size = cs.size := by
  simp [splice]; omega
theorem Blk.putRow {b o : Nat} : ∀ (l : List Value) (h : Heap) (cs : Array Value) (i : Nat), Blk h b cs → o + i + l.length ≤ cs.size → Blk (Vc.putRow h (Addr.mk b o none) i l) b (splice cs (o + i) l)
  | [], h, cs, i, hb, _ => by
    have : splice cs (o + i) [] = cs := by apply Array.toList_inj.1; simp [splice]
    rw [this]; exact hb
  | v :: r, h, cs, i, hb, hle => by
    simp only [List.length_cons] at hle
    unfold Vc.putRow
    rw [add_mk]
    have := Blk.putRow (b := b) (o := o) r (Vc.put h (Addr.mk b (o + i) none) v) (cs.setIfInBounds (o + i) v) (i + 1) (hb.put _ _) (by simp; omega)
    have e : splice (cs.setIfInBounds (o + i) v) (o + (i + 1)) r = splice cs (o + i) (v :: r) := by
      apply Array.toList_inj.1
      simp only [splice, Array.toList_setIfInBounds, List.length_cons]
      rw [show o + (i + 1) = o + i + 1 from by omega, List.take_succ_eq_append_getElem (by simp; omega), List.take_set, List.set_eq_of_length_le (by simp; omega)]
      rw [List.drop_set_of_lt (by omega), show o + i + 1 + r.length = o + i + (r.length + 1) from by omega]
      simp
    rw [← e]; exact this
theorem only_putRow (h : Heap) (b o i : Nat) (l : List Value) : Only (· = b) h (putRow h (Addr.mk b o none) i l) :=
  ⟨by rw [putRow_size]; exact Nat.le_refl _, fun x _ hx => putRow_other (fun e => hx e.symm) _ _ _⟩
theorem Blk.wrtRow {h : Heap} {b o n : Nat} {cs : Array Value} (hb : Blk h b cs) (hle : o + n ≤ cs.size) : Vc.wrtRow h (Addr.mk b o none) n :=
  fun i hi => by rw [add_mk]; exact hb.wrt (by omega)
theorem storeP_row {h : Heap} {b o n : Nat} {cs : Array Value} {v : Value} {K : Heap → Prop} (hb : Blk h b cs) (hn : v.cells.size = n) (hle : o + n ≤ cs.size) (hv : one v.cells)
    (hk : ∀ h', Blk h' b (splice cs o v.cells.toList) → Only (· = b) h h' → h'.size = h.size → K h') : storeP (some n) h (Addr.mk b o none) v K :=
  ⟨hn, hv, hb.wrtRow (by omega), fun h' e => by
    subst e
    have := Blk.putRow (b := b) (o := o) v.cells.toList h cs 0 hb (by simp; omega)
    exact hk _ this (only_putRow h b o 0 _) (putRow_size _ _ _ _)⟩

/- ### Slices -/
/-- What a slice holds, readable. -/
def Rd (h : Heap) (sz : Nat) (p : Option Addr) (l : Nat) (vs : List Value) : Prop := vs.length = l * sz ∧ src h p (l * sz) = some vs.toArray
/-- A slice whose cells, to the capacity, are there to be written. -/
def Own (h : Heap) (sz : Nat) (p : Option Addr) (l c : Nat) (vs : List Value) : Prop :=
  vs.length = l * sz ∧ l ≤ c ∧ c ≤ maxLen ∧ ((p = none ∧ c = 0) ∨ ∃ b o cs, p = some (Addr.mk b o none) ∧ Blk h b cs ∧ o + c * sz ≤ cs.size ∧ (cs.toList.drop o).take (l * sz) = vs)
def inBlk (p : Option Addr) (b : Nat) : Prop := ∃ o, p = some (Addr.mk b o none)

theorem Own.rd {h : Heap} {sz : Nat} {p : Option Addr} {l c : Nat} {vs : List Value} (ho : Own h sz p l c vs) : Rd h sz p l vs := by
  obtain ⟨h1, h2, h3, h4⟩ := ho
  refine ⟨h1, ?_⟩
  rcases h4 with ⟨rfl, rfl⟩ | ⟨b, o, cs, rfl, hb, hle, ht⟩
  · have : l = 0 := by omega
    subst this
    have : vs = [] := List.eq_nil_of_length_eq_zero (by simpa using h1)
    subst this
    rfl
  · simp only [src]
    rw [row_blk hb (by have := Nat.mul_le_mul_right sz h2; omega), ht]
theorem Own.nil (h : Heap) (sz : Nat) : Own h sz none 0 0 [] := ⟨by simp, Nat.le_refl _, Nat.zero_le _, .inl ⟨rfl, rfl⟩⟩
theorem Own.same {h h' : Heap} {sz : Nat} {p : Option Addr} {l c : Nat} {vs : List Value} (ho : Own h sz p l c vs) (e : ∀ b, inBlk p b → h'[b]? = h[b]?) : Own h' sz p l c vs := by
  obtain ⟨h1, h2, h3, h4⟩ := ho
  refine ⟨h1, h2, h3, ?_⟩
  rcases h4 with h4 | ⟨b, o, cs, rfl, hb, hle, ht⟩
  · exact .inl h4
  · exact .inr ⟨b, o, cs, rfl, hb.same (e b ⟨o, rfl⟩), hle, ht⟩
theorem Own.lt {h : Heap} {sz : Nat} {p : Option Addr} {l c : Nat} {vs : List Value} (ho : Own h sz p l c vs) {b : Nat} (hb : inBlk p b) : b < h.size := by
  obtain ⟨h1, h2, h3, h4⟩ := ho
  obtain ⟨o, rfl⟩ := hb
  rcases h4 with ⟨h4, _⟩ | ⟨b', o', cs, e, hb, _⟩
  · cases h4
  · cases e; exact hb.lt
theorem Own.only {S : Nat → Prop} {h h' : Heap} {sz : Nat} {p : Option Addr} {l c : Nat} {vs : List Value} (ho : Own h sz p l c vs) (o : Only S h h') (hs : ∀ b, inBlk p b → ¬ S b) : Own h' sz p l c vs :=
  ho.same fun b hb => o.2 b (ho.lt hb) (hs b hb)
theorem Own.ext {h h' : Heap} {sz : Nat} {p : Option Addr} {l c : Nat} {vs : List Value} (ho : Own h sz p l c vs) (o : Ext h h') : Own h' sz p l c vs := ho.same fun b hb => o b (ho.lt hb)

theorem src_ext {h h' : Heap} (e : Ext h h') {p : Option Addr} {n : Nat} {cs : Array Value} (hs : src h p n = some cs) : src h' p n = some cs := by
  cases p with
  | none => exact hs
  | some a => exact e.row hs
theorem Rd.ext {h h' : Heap} {sz : Nat} {p : Option Addr} {l : Nat} {vs : List Value} (hr : Rd h sz p l vs) (e : Ext h h') : Rd h' sz p l vs := ⟨hr.1, src_ext e hr.2⟩
theorem rowFrom_same {h h' : Heap} {a : Addr} (e : h'[a.block]? = h[a.block]?) : ∀ (n i : Nat), rowFrom h' a i n = rowFrom h a i n
  | 0, i => rfl
  | n + 1, i => by
    have hc : cell h' (a.add i) = cell h (a.add i) := by
      have hb : (a.add i).block = a.block := by unfold Addr.add; split <;> rfl
      unfold cell
      rw [hb, e]
    unfold rowFrom
    rw [hc, rowFrom_same e n (i + 1)]
theorem Rd.same {h h' : Heap} {sz : Nat} {p : Option Addr} {l : Nat} {vs : List Value} (hr : Rd h sz p l vs) (e : ∀ a, p = some a → h'[a.block]? = h[a.block]?) : Rd h' sz p l vs := by
  refine ⟨hr.1, ?_⟩
  have := hr.2
  cases p with
  | none => exact this
  | some a =>
    simp only [src, row] at this ⊢
    rw [rowFrom_same (e a rfl)]
    exact this
theorem Rd.nil (h : Heap) (sz : Nat) : Rd h sz none 0 [] := ⟨by simp, by simp [src]⟩

/-- append, to what is owned. -/
theorem append_own {h : Heap} {e : TypeId} {sz bytes : Nat} {zero : Array Value} {p q : Option Addr} {l c n : Nat} {vs xs : List Value} {K : Option Addr → Nat → Nat → Heap → Prop}
    (ho : Own h sz p l c vs) (hr : Rd h sz q n xs) (hone : ∀ v ∈ xs, v.oneCell' = true) (hzs : zero.size = sz) (hsz : 0 < sz) (hmax : (l + n) * bytes ≤ 140737488355328) (hml : l + n ≤ maxLen)
    (hk : ∀ p' c' h', Own h' sz p' (l + n) c' (vs ++ xs) → Only (inBlk p) h h' → (∀ b, inBlk p' b → inBlk p b ∨ h.size ≤ b) → (p' = none → p = none ∧ n = 0) → K p' (l + n) c' h') :
    appendP e sz bytes zero p l c q n h K := by
  have hsrc := ho.rd.2
  obtain ⟨h1, h2, h3, h4⟩ := ho
  refine ⟨xs.toArray, hr.2, by simpa [one] using hone, fun hc => ?_, fun hc => ⟨hml, hmax, vs.toArray, hsrc, fun c' b h' e1 e2 e3 e4 => ?_⟩⟩
  · rcases h4 with ⟨rfl, rfl⟩ | ⟨b, o, cs, rfl, hb, hle, ht⟩
    · refine ⟨fun a ha => (by cases ha), fun h' e => ?_⟩
      simp only at e
      subst e
      have hn : n = 0 := by omega
      subst hn
      have : xs = [] := List.eq_nil_of_length_eq_zero (by simpa using hr.1)
      subst this
      exact hk _ _ _ ⟨by simpa using h1, by omega, h3, .inl ⟨rfl, rfl⟩⟩ (Only.refl _ _) (fun b hb => .inl hb) (fun _ => ⟨rfl, rfl⟩)
    · have hm := Nat.mul_le_mul_right sz hc
      rw [Nat.add_mul] at hm
      refine ⟨fun a ha => (by cases ha; rw [add_mk]; exact hb.wrtRow (by omega)), fun h' e => ?_⟩
      simp only [add_mk] at e
      subst e
      have hxl := hr.1
      have hb' := Blk.putRow (b := b) (o := o + l * sz) xs h cs 0 hb (by omega)
      refine hk _ _ _ ⟨by rw [List.length_append, h1, hxl, Nat.add_mul], hc, h3, .inr ⟨b, o, _, rfl, by simpa using hb', ?_, ?_⟩⟩ ((only_putRow h b _ 0 xs).mono fun x _ hx => by subst hx; exact ⟨o, rfl⟩) (fun b hb => .inl hb) (fun h0 => by cases h0)
      · rw [splice_size (by omega)]; omega
      · simp only [splice, Nat.add_mul]
        have ht' : cs.toList.take (o + l * sz) = cs.toList.take o ++ vs := by
          rw [← ht, List.take_add]
        rw [ht', List.append_assoc, List.drop_append]
        have hol : (cs.toList.take o).length = o := by simp; omega
        rw [hol, List.drop_of_length_le (by omega), Nat.sub_self, List.drop_zero, List.nil_append, ← List.append_assoc]
        rw [List.take_append_of_le_length (by rw [List.length_append]; omega)]
        exact List.take_of_length_le (by rw [List.length_append]; omega)
  · subst e3; subst e4
    refine hk _ _ _ ⟨by rw [List.length_append, h1, hr.1, Nat.add_mul], e1, e2, .inr ⟨h.size, 0, vs.toArray ++ xs.toArray ++ Builtin.zeroCells zero (c' - (l + n)), rfl, ⟨e, (0, 0), by simp, .inl (Nat.le_refl _)⟩, ?_, ?_⟩⟩ ((Ext.push h _).only _) (fun b hb => .inr (by obtain ⟨o, ho⟩ := hb; cases ho; exact Nat.le_refl _)) (fun h0 => by cases h0)
    · simp only [Array.size_append, List.size_toArray, size_zeroCells, hzs, h1, hr.1]
      rw [← Nat.add_mul, ← Nat.add_mul]
      have : (l + n + (c' - (l + n))) = c' := by omega
      rw [this]; omega
    · simp only [Array.toList_append, List.drop_zero]
      rw [List.take_append_of_le_length (by simp [h1, hr.1, Nat.add_mul])]
      exact List.take_of_length_le (by simp [h1, hr.1, Nat.add_mul])

/- ### Bytes -/
def bv (b : UInt8) : Value := .int .u8 (b.toNat : Int)
theorem bv_one (b : UInt8) : (bv b).oneCell' = true := rfl
theorem bvs_one (l : List UInt8) : ∀ v ∈ l.map bv, v.oneCell' = true := by
  intro v hv
  obtain ⟨b, _, rfl⟩ := List.mem_map.1 hv
  rfl
/-- A slice of bytes, readable. -/
def Bs (h : Heap) (p : Option Addr) (l : Nat) (bs : List UInt8) : Prop := bs.length = l ∧ Rd h 1 p l (bs.map bv)

/- ### Words of the formulas, laid open -/
theorem br_true (X Y : Prop) : br true X Y = X := rfl
theorem br_false (X Y : Prop) : br false X Y = Y := rfl
theorem br_not (t : Bool) (X Y : Prop) : br (!t) X Y = br t Y X := by cases t <;> rfl
theorem br_decide {p : Prop} [Decidable p] {X Y : Prop} : br (decide p) X Y ↔ (p → X) ∧ (¬ p → Y) := by
  by_cases h : p <;> simp [h, br]
theorem br_beq {a b : Int} {X Y : Prop} : br (a == b) X Y ↔ (a = b → X) ∧ (a ≠ b → Y) := by
  by_cases h : a = b
  · subst h; simp [br]
  · have : (a == b) = false := by simpa using h
    simp [this, h, br]
theorem br_bne {a b : Int} {X Y : Prop} : br (a != b) X Y ↔ (a ≠ b → X) ∧ (a = b → Y) := by
  by_cases h : a = b
  · subst h; simp [br]
  · have : (a != b) = true := by simpa using h
    simp [this, h, br]
theorem br_and {t : Bool} {X Y : Prop} : br t X Y ↔ (t = true → X) ∧ (t = false → Y) := by cases t <;> simp [br]
theorem br_yes {t : Bool} {X Y : Prop} (h : t = true) (hx : X) : br t X Y := by subst h; exact hx
theorem br_no {t : Bool} {X Y : Prop} (h : t = false) (hy : Y) : br t X Y := by subst h; exact hy
theorem deref_some (a : Addr) (K : Addr → Prop) : deref (some a) K = K a := rfl
theorem deref_none (K : Addr → Prop) : deref none K = False := rfl

/- ### Numbers -/
theorem wrap_i64 {n : Int} (h1 : -9223372036854775808 ≤ n) (h2 : n ≤ 9223372036854775807) : IntKind.i64.wrap n = n := by
  unfold IntKind.wrap IntKind.bits IntKind.signed
  simp only
  by_cases h : 0 ≤ n
  · rw [Int.emod_eq_of_lt h (by omega)]
    simp; omega
  · have : n % (2 ^ 64 : Int) = n + 2 ^ 64 := by
      rw [← Int.add_emod_right, Int.emod_eq_of_lt (by omega) (by omega)]
    rw [this]
    simp; omega
theorem wrap_u8 (n : Int) : IntKind.u8.wrap n = n % 256 := by simp [IntKind.wrap, IntKind.bits, IntKind.signed]
theorem wrap_u16 (n : Int) : IntKind.u16.wrap n = n % 65536 := by simp [IntKind.wrap, IntKind.bits, IntKind.signed]
theorem wrap_u32 (n : Int) : IntKind.u32.wrap n = n % 4294967296 := by simp [IntKind.wrap, IntKind.bits, IntKind.signed]
theorem wrap_u64 (n : Int) : IntKind.u64.wrap n = n % 18446744073709551616 := by simp [IntKind.wrap, IntKind.bits, IntKind.signed]
theorem byte_of_int (n : Nat) : bv (UInt8.ofNat n) = .int .u8 ((n % 256 : Nat) : Int) := by
  simp [bv]

/- ### What an object turns into: its blocks are of those that it had, or new -/
def From (S S' : Nat → Prop) (h : Heap) : Prop := ∀ x, S' x → S x ∨ h.size ≤ x
theorem From.refl (S : Nat → Prop) (h : Heap) : From S S h := fun _ hx => .inl hx
theorem From.trans {S S' S'' : Nat → Prop} {h h' : Heap} (a : From S S' h) (b : From S' S'' h') (hs : h.size ≤ h'.size) : From S S'' h := fun x hx => by
  rcases b x hx with hx | hx
  · exact a x hx
  · exact .inr (by omega)
/-- Only those blocks have changed, by way of what the object has turned into. -/
theorem Only.step {S S' : Nat → Prop} {h h' h'' : Heap} (a : Only S h h') (f : From S S' h) (b : Only S' h' h'') : Only S h h'' :=
  a.trans b (fun _ h => h) (fun x hx hs => (f x hs).resolve_right (by omega))
theorem CallsH.of {P : Program} {f : FuncId} {args : Array Value} {h : Heap} {R R' : Value → Heap → Prop} (hh : CallsH P f args h R) (hr : ∀ v h', R v h' → R' v h') : CallsH P f args h R' := hh.mono hr
end Go.Vc
/- The heap library, second part: cells of slices, sub-slices, stores into slices. -/
set_option linter.unusedVariables false
namespace Go.Vc
open Go

theorem rowFrom_cell {h : Heap} {a : Addr} : ∀ (n i : Nat) (L : List Value), rowFrom h a i n = some L → L.length = n ∧ ∀ j (hj : j < L.length), cell h (a.add (i + j)) = some L[j]
  | 0, i, L, e => by
    simp [rowFrom] at e
    subst e
    exact ⟨rfl, fun j hj => by simp at hj⟩
  | n + 1, i, L, e => by
    unfold rowFrom at e
    cases hc : cell h (a.add i) with
    | none => simp [hc] at e
    | some v =>
      simp only [hc] at e
      cases hr : rowFrom h a (i + 1) n with
      | none => simp [hr] at e
      | some r =>
        simp [hr] at e
        subst e
        obtain ⟨h1, h2⟩ := rowFrom_cell n (i + 1) r hr
        refine ⟨by simp [h1], fun j hj => ?_⟩
        cases j with
        | zero => simpa using hc
        | succ j =>
          have := h2 j (by simpa using hj)
          rw [show i + (j + 1) = i + 1 + j by omega]
          simpa using this
theorem Rd.cell {h : Heap} {sz : Nat} {p : Option Addr} {l : Nat} {vs : List Value} (hr : Rd h sz p l vs) {i : Nat} (hi : i < vs.length) : ∃ a, p = some a ∧ Vc.cell h (a.add i) = some vs[i] := by
  obtain ⟨h1, h2⟩ := hr
  cases p with
  | none =>
    simp [src] at h2
    subst h2
    simp at hi
  | some a =>
    refine ⟨a, rfl, ?_⟩
    simp only [src, row] at h2
    cases hr : rowFrom h a 0 (l * sz) with
    | none => simp [hr] at h2
    | some L =>
      simp [hr] at h2
      subst h2
      have := (rowFrom_cell _ _ _ hr).2 i hi
      simpa using this
theorem Bs.cell {h : Heap} {p : Option Addr} {l : Nat} {bs : List UInt8} (hb : Bs h p l bs) {i : Nat} (hi : i < bs.length) : ∃ a, p = some a ∧ Vc.cell h (a.add i) = some (bv bs[i]) := by
  obtain ⟨a, e, hc⟩ := hb.2.cell (i := i) (by simpa using hi)
  exact ⟨a, e, by simpa using hc⟩
theorem Bs.ext {h h' : Heap} {p : Option Addr} {l : Nat} {bs : List UInt8} (hb : Bs h p l bs) (e : Ext h h') : Bs h' p l bs := ⟨hb.1, hb.2.ext e⟩
theorem Bs.lt {h : Heap} {p : Option Addr} {l : Nat} {bs : List UInt8} (hb : Bs h p l bs) (hl : 0 < l) : ∃ a, p = some a ∧ a.block < h.size := by
  obtain ⟨a, e, hc⟩ := hb.cell (i := 0) (by rw [hb.1]; exact hl)
  refine ⟨a, e, ?_⟩
  unfold Vc.cell at hc
  have hk : (a.add 0).block = a.block := by unfold Addr.add; split <;> rfl
  rw [hk] at hc
  by_cases hlt : a.block < h.size
  · exact hlt
  · rw [Array.getElem?_eq_none (by omega)] at hc
    simp at hc
theorem Bs.only {S : Nat → Prop} {h h' : Heap} {p : Option Addr} {l : Nat} {bs : List UInt8} (hb : Bs h p l bs) (o : Only S h h') (hd : ∀ a, p = some a → a.block < h.size → ¬ S a.block) : Bs h' p l bs := by
  by_cases hl : 0 < l
  · obtain ⟨a, rfl, hlt⟩ := hb.lt hl
    refine ⟨hb.1, hb.2.same fun a' e => ?_⟩
    cases e
    exact o.2 _ hlt (hd a rfl hlt)
  · have : l = 0 := by omega
    subst this
    have hn := hb.1
    have : bs = [] := List.eq_nil_of_length_eq_zero hn
    subst this
    refine ⟨rfl, by simp, ?_⟩
    cases p <;> simp [src, row, rowFrom]
theorem Own.len {h : Heap} {p : Option Addr} {l c : Nat} {bs : List UInt8} (ho : Own h 1 p l c (bs.map bv)) : bs.length = l := by
  have := ho.1; simpa using this
theorem Own.bs {h : Heap} {p : Option Addr} {l c : Nat} {bs : List UInt8} (ho : Own h 1 p l c (bs.map bv)) : Bs h p l bs := ⟨ho.len, ho.rd⟩

theorem Own.slice {h : Heap} {p : Option Addr} {l c : Nat} {vs : List Value} (ho : Own h 1 p l c vs) {i j m : Nat} (h1 : i ≤ j) (h2 : j ≤ m) (h3 : m ≤ c) (h4 : j ≤ l) :
    Own h 1 (if m = i then p else p.map (·.add (i * 1))) (j - i) (m - i) ((vs.drop i).take (j - i)) ∧ ∀ x, inBlk (if m = i then p else p.map (·.add (i * 1))) x ↔ inBlk p x := by
  obtain ⟨e1, e2, e3, e4⟩ := ho
  simp only [Nat.mul_one] at e1
  rcases e4 with ⟨rfl, rfl⟩ | ⟨b, o, cs, rfl, hb, hle, ht⟩
  · refine ⟨⟨by simp; omega, by omega, by omega, .inl ⟨by simp, by omega⟩⟩, fun x => by simp⟩
  · by_cases hm : m = i
    · rw [if_pos hm]
      refine ⟨⟨by simp; omega, by omega, by omega, .inr ⟨b, o, cs, rfl, hb, by omega, ?_⟩⟩, fun x => Iff.rfl⟩
      have : j - i = 0 := by omega
      simp [this]
    · rw [if_neg hm]
      refine ⟨⟨by simp; omega, by omega, by omega, .inr ⟨b, o + i, cs, by simp [add_mk], hb, by omega, ?_⟩⟩, fun x => ?_⟩
      · rw [← ht, Nat.mul_one, Nat.mul_one, ← List.drop_drop, List.drop_take, List.take_take]
        congr 1
        omega
      · constructor
        · rintro ⟨o', he⟩
          simp [add_mk] at he
          exact ⟨o, by rw [he.1]⟩
        · rintro ⟨o', he⟩
          cases he
          exact ⟨o + i, by simp [add_mk]⟩
theorem sliceP_own {h : Heap} {p : Option Addr} {l c : Nat} {vs : List Value} (ho : Own h 1 p l c vs) {i j m : Nat} {K : Option Addr → Nat → Nat → Prop} (h1 : i ≤ j) (h2 : j ≤ m) (h3 : m ≤ c) (h4 : j ≤ l)
    (hk : ∀ p', Own h 1 p' (j - i) (m - i) ((vs.drop i).take (j - i)) → (∀ x, inBlk p' x ↔ inBlk p x) → K p' (j - i) (m - i)) : sliceP 1 p (i : Int) (j : Int) (m : Int) c K := by
  refine ⟨by omega, by omega, by omega, by omega, ?_⟩
  simp only [Int.toNat_natCast]
  exact hk _ (ho.slice h1 h2 h3 h4).1 (ho.slice h1 h2 h3 h4).2
theorem Own.store {h : Heap} {p : Option Addr} {l c : Nat} {vs : List Value} (ho : Own h 1 p l c vs) {i : Nat} {v : Value} {K : Heap → Prop} (hi : i < l) (hv : v.oneCell' = true)
    (hk : ∀ h', Own h' 1 p l c (vs.set i v) → Only (inBlk p) h h' → h'.size = h.size → K h') : deref p fun a => storeP none h (a.add (i * 1)) v K := by
  obtain ⟨e1, e2, e3, e4⟩ := ho
  simp only [Nat.mul_one] at e1
  rcases e4 with ⟨rfl, rfl⟩ | ⟨b, o, cs, rfl, hb, hle, ht⟩
  · omega
  · rw [deref_some, add_mk]
    refine storeP_blk hb (by omega) hv fun h' b' o' s' => hk h' ⟨by simpa using e1, e2, e3, .inr ⟨b, o, _, rfl, b', by simpa using hle, ?_⟩⟩ (o'.mono fun x _ e => ⟨o, by rw [e]⟩) s'
    rw [← ht]
    simp only [Array.toList_setIfInBounds, Nat.mul_one]
    rw [List.drop_set, if_neg (by omega), List.take_set]
    congr 1
    omega
theorem sizes_one {l : List UInt8} : (l.map bv).length = l.length := by simp

/-- Every byte of an owned slice is stored anew. -/
theorem bump {h : Heap} {p : Option Addr} {l c : Nat} {xs : List UInt8} {K : Heap → Prop} (ho : Own h 1 p l c (xs.map bv))
    (hk : ∀ (h' : Heap) (ys : List UInt8), Own h' 1 p l c (ys.map bv) → Only (inBlk p) h h' → h'.size = h.size → K h') :
    ∃ (I : Int → Heap → Prop) (μ : Int → Heap → Nat), I 0 h ∧ ∀ n h', I n h' → br (decide (n < (l : Int)))
      (0 ≤ n ∧ n < (l : Int) ∧ deref p fun a => ∃ k, cell h' (a.add (n.toNat * 1)) = some (.int .u8 k) ∧ 0 ≤ n ∧ n < (l : Int) ∧ deref p fun a' =>
        storeP none h' (a'.add (n.toNat * 1)) (.int .u8 (IntKind.wrap .u8 (k + 1))) fun h'' => I (IntKind.wrap .i64 (n + 1)) h'' ∧ μ (IntKind.wrap .i64 (n + 1)) h'' < μ n h')
      (K h') := by
  have hmax := ho.2.2.1
  have hcl := ho.2.1
  unfold maxLen at hmax
  refine ⟨fun n h' => ∃ (i : Nat) (ys : List UInt8), n = i ∧ i ≤ l ∧ Own h' 1 p l c (ys.map bv) ∧ Only (inBlk p) h h' ∧ h'.size = h.size, fun n _ => l - n.toNat, ⟨0, xs, rfl, Nat.zero_le _, ho, Only.refl _ _, rfl⟩, ?_⟩
  rintro n h' ⟨i, ys, rfl, hi, hy, hon, hsz⟩
  rw [br_decide]
  refine ⟨fun hlt => ⟨by omega, hlt, ?_⟩, fun _ => hk h' ys hy hon hsz⟩
  have hlt' : i < l := by omega
  obtain ⟨a, rfl, hc⟩ := hy.bs.cell (i := i) (by rw [hy.len]; exact hlt')
  refine ⟨((ys[i]'(by rw [hy.len]; exact hlt')).toNat : Int), by simpa [bv] using hc, by omega, hlt, ?_⟩
  refine Own.store (i := i) hy hlt' rfl fun h'' hy' hon' hsz' => ?_
  rw [wrap_i64 (by omega) (by omega)]
  refine ⟨⟨i + 1, ys.set i (UInt8.ofNat ((ys[i]'(by rw [hy.len]; exact hlt')).toNat + 1)), by omega, by omega, ?_, hon.trans hon' (fun _ h => h) (fun _ _ h => h), by omega⟩, by simp; omega⟩
  have : (ys.set i (UInt8.ofNat ((ys[i]'(by rw [hy.len]; exact hlt')).toNat + 1))).map bv = (ys.map bv).set i (.int .u8 (IntKind.wrap .u8 (((ys[i]'(by rw [hy.len]; exact hlt')).toNat : Int) + 1))) := by
    rw [List.map_set, byte_of_int, wrap_u8]
    congr 1
  rw [this]
  exact hy'

/-! ### What came in with the call -/
theorem rowFrom_of {h : Heap} {a : Addr} : ∀ (vs : List Value) (i : Nat), (∀ j (hj : j < vs.length), cell h (a.add (i + j)) = some vs[j]) → rowFrom h a i vs.length = some vs
  | [], i, _ => rfl
  | v :: r, i, hc => by
    have h0 := hc 0 (by simp)
    simp at h0
    have hr := rowFrom_of r (i + 1) fun j hj => by
      have := hc (j + 1) (by simpa using hj)
      rw [show i + 1 + j = i + (j + 1) by omega]
      simpa using this
    simp [rowFrom, h0, hr]
theorem row_of {h : Heap} {a : Addr} (vs : List Value) (hc : ∀ j (hj : j < vs.length), cell h (a.add j) = some vs[j]) : row h a vs.length = some vs.toArray := by
  unfold row
  rw [rowFrom_of vs 0 (by simpa using hc)]
  rfl
/-- Numbers that fit a byte are bytes. -/
theorem bytes_of : ∀ (zs : List Int), (∀ n ∈ zs, (Lit.int .u8 n).wf = true) → ∃ bs : List UInt8, bs.length = zs.length ∧ bs.map bv = zs.map (Value.int .u8)
  | [], _ => ⟨[], rfl, rfl⟩
  | z :: r, hz => by
    obtain ⟨bs, h1, h2⟩ := bytes_of r fun n hn => hz n (List.mem_cons_of_mem _ hn)
    have hw := hz z (List.mem_cons_self ..)
    have hr : 0 ≤ z ∧ z < 256 := by
      simp [Lit.wf, IntKind.min, IntKind.max, IntKind.bits, IntKind.signed] at hw
      omega
    refine ⟨UInt8.ofNat z.toNat :: bs, by simp [h1], ?_⟩
    rw [List.map_cons, List.map_cons, h2, byte_of_int]
    congr 2
    omega
theorem Bs.of {h : Heap} {a : Option Addr} {len cap : Nat} {zs : List Int}
    (w : (a = none ∧ len = 0 ∧ cap = 0 ∧ zs = []) ∨ ∃ x, a = some x ∧ len ≤ cap ∧ cap ≤ maxLen ∧ zs.length = cap ∧ (∀ i, i < zs.length → Vc.cell h (x.add i) = some (.int .u8 (zs.getD i 0))) ∧ ∀ n ∈ zs, (Lit.int .u8 n).wf = true) :
    ∃ bs, Bs h a len bs := by
  rcases w with ⟨rfl, rfl, rfl, rfl⟩ | ⟨x, rfl, h1, h2, h3, h4, h5⟩
  · exact ⟨[], rfl, Rd.nil h 1⟩
  · obtain ⟨bs, e1, e2⟩ := bytes_of (zs.take len) fun n hn => h5 n (List.mem_of_mem_take hn)
    have el : bs.length = len := by rw [e1, List.length_take]; omega
    refine ⟨bs, el, by simp [el], ?_⟩
    have hr := row_of (h := h) (a := x) (bs.map bv) fun j hj => by
      have hj' : j < len := by simp [el] at hj; exact hj
      rw [h4 j (by omega)]
      have e3 : (bs.map bv)[j] = ((zs.take len).map (Value.int .u8))[j]'(by simp; omega) := by congr 1
      rw [e3]
      simp [List.getD_eq_getElem?_getD, List.getElem?_eq_getElem (show j < zs.length by omega)]
    simpa [src, el] using hr
end Go.Vc
/- Parts of memory, kept apart: what is owned, what may be read by all. It speaks of no program. -/
set_option linter.unusedVariables false
namespace Go.Vc
open Go

/-- A part of memory: what some cells hold, and whether they are read alone (by all). -/
abbrev Res := Nat → Nat → Option (Value × Bool)
def rle (m n : Res) : Prop := ∀ b o x, m b o = some x → n b o = some x
def radd (m n : Res) : Res := fun b o => match m b o with | some x => some x | none => n b o
def Comp (m n : Res) : Prop := ∀ b o x y, m b o = some x → n b o = some y → x = y ∧ x.2 = true
abbrev HP := Res → Prop
def star : List HP → HP
  | [], _ => True
  | P :: r, m => ∃ m1 m2, rle m1 m ∧ rle m2 m ∧ Comp m1 m2 ∧ P m1 ∧ star r m2
def Sat (h : Heap) (m : Res) : Prop := ∀ b o v r, m b o = some (v, r) → cell h (Addr.mk b o none) = some v ∧ (r = false → frz h (Addr.mk b o none) = false)
/-- From h0 on only new memory has changed, and in h these parts stand apart. -/
structure St (h0 h : Heap) (l : List HP) : Prop where
  ext : Ext h0 h
  res : ∃ m, star l m ∧ Sat h m ∧ ∀ b o v, m b o = some (v, false) → h0.size ≤ b
/-- The same, and all of it is new. -/
structure New (h0 h : Heap) (l : List HP) : Prop where
  ext : Ext h0 h
  res : ∃ m, star l m ∧ Sat h m ∧ ∀ b o x, m b o = some x → h0.size ≤ b
def At (h : Heap) (P : HP) : Prop := ∃ m, Sat h m ∧ P m

theorem rle.refl (m : Res) : rle m m := fun _ _ _ h => h
theorem rle.trans {m n k : Res} (a : rle m n) (b : rle n k) : rle m k := fun x y z h => b x y z (a x y z h)
theorem rle_left (m n : Res) : rle m (radd m n) := fun b o x h => by simp [radd, h]
theorem rle_right {m n : Res} (c : Comp m n) : rle n (radd m n) := fun b o x h => by
  unfold radd
  cases e : m b o with
  | none => exact h
  | some y => simp only; rw [(c b o y x e h).1]
theorem radd_le {m n k : Res} (a : rle m k) (b : rle n k) : rle (radd m n) k := fun x y z h => by
  unfold radd at h
  split at h
  · rename_i w e; exact a _ _ _ (e.trans h)
  · exact b _ _ _ h
theorem Comp.symm {m n : Res} (c : Comp m n) : Comp n m := fun b o x y h h' => by
  obtain ⟨e, f⟩ := c b o y x h' h
  subst e; exact ⟨rfl, f⟩
theorem Comp.le {m n m' n' : Res} (c : Comp m n) (a : rle m' m) (b : rle n' n) : Comp m' n' := fun x y z w h h' => c x y z w (a _ _ _ h) (b _ _ _ h')
theorem Comp.add {m n k : Res} (a : Comp m n) (b : Comp m k) : Comp m (radd n k) := fun x y z w h h' => by
  unfold radd at h'
  split at h'
  · rename_i u e; exact a x y z w h (e.trans h')
  · exact b x y z w h h'
theorem Sat.le {h : Heap} {m n : Res} (s : Sat h n) (a : rle m n) : Sat h m := fun b o v r e => s b o v r (a _ _ _ e)
theorem Sat.lt {h : Heap} {m : Res} (s : Sat h m) {b o : Nat} {x : Value × Bool} (e : m b o = some x) : b < h.size := by
  have := (s b o x.1 x.2 e).1
  unfold cell at this
  by_cases hb : b < h.size
  · exact hb
  · rw [Array.getElem?_eq_none (by simpa using hb)] at this
    simp at this
theorem cell_same {h h' : Heap} {a : Addr} (e : h'[a.block]? = h[a.block]?) : cell h' a = cell h a := by unfold cell; rw [e]
theorem frz_same {h h' : Heap} {a : Addr} (e : h'[a.block]? = h[a.block]?) : frz h' a = frz h a := by unfold frz; rw [e]
theorem Sat.ext {h h' : Heap} {m : Res} (s : Sat h m) (e : Ext h h') : Sat h' m := fun b o v r x => by
  have hb := s.lt x
  have := s b o v r x
  rw [cell_same (a := Addr.mk b o none) (e b hb), frz_same (a := Addr.mk b o none) (e b hb)]
  exact this

theorem star_le {l : List HP} : ∀ {m n : Res}, star l m → rle m n → star l n := by
  cases l with
  | nil => intro m n _ _; trivial
  | cons P r => rintro m n ⟨m1, m2, a, b, c, d, e⟩ le; exact ⟨m1, m2, a.trans le, b.trans le, c, d, e⟩
theorem star_swap {P Q : HP} {r : List HP} {m : Res} (s : star (P :: Q :: r) m) : star (Q :: P :: r) m := by
  obtain ⟨m1, m2, a, b, c, p, m3, m4, d, e, f, q, s⟩ := s
  have c13 : Comp m1 m3 := c.le (rle.refl _) d
  have c14 : Comp m1 m4 := c.le (rle.refl _) e
  exact ⟨m3, radd m1 m4, d.trans b, radd_le a (e.trans b), c13.symm.add f, q, m1, m4, rle_left _ _, rle_right c14, c14, p, s⟩
theorem star_tail {P : HP} {l l' : List HP} (t : ∀ m, star l m → star l' m) {m : Res} (s : star (P :: l) m) : star (P :: l') m := by
  obtain ⟨m1, m2, a, b, c, p, s⟩ := s
  exact ⟨m1, m2, a, b, c, p, t _ s⟩
theorem star_head {P Q : HP} {l : List HP} (t : ∀ m, P m → Q m) {m : Res} (s : star (P :: l) m) : star (Q :: l) m := by
  obtain ⟨m1, m2, a, b, c, p, s⟩ := s
  exact ⟨m1, m2, a, b, c, t _ p, s⟩
theorem star_flat {l : List HP} {F : List HP} : ∀ {m : Res}, star (star l :: F) m → star (l ++ F) m := by
  induction l with
  | nil => rintro m ⟨m1, m2, a, b, c, p, s⟩; exact star_le s b
  | cons P r ih =>
    rintro m ⟨m1, m2, a, b, c, ⟨m3, m4, d, e, f, p, q⟩, s⟩
    have c42 : Comp m4 m2 := c.le e (rle.refl _)
    have c32 : Comp m3 m2 := c.le d (rle.refl _)
    refine ⟨m3, radd m4 m2, d.trans a, radd_le (e.trans a) b, f.add c32, p, ih ⟨m4, m2, rle_left _ _, rle_right c42, c42, q, s⟩⟩
theorem star_pack {l : List HP} {F : List HP} : ∀ {m : Res}, star (l ++ F) m → star (star l :: F) m := by
  induction l with
  | nil => intro m s; exact ⟨fun _ _ => none, m, fun _ _ _ h => by simp at h, rle.refl _, fun _ _ _ _ h => by simp at h, trivial, s⟩
  | cons P r ih =>
    rintro m ⟨m1, m2, a, b, c, p, s⟩
    obtain ⟨m3, m4, d, e, f, q, s⟩ := ih s
    have c13 : Comp m1 m3 := c.le (rle.refl _) d
    have c14 : Comp m1 m4 := c.le (rle.refl _) e
    exact ⟨radd m1 m3, m4, radd_le a (d.trans b), e.trans b, (c14.symm.add f.symm).symm, ⟨m1, m3, rle_left _ _, rle_right c13, c13, p, q⟩, s⟩

section
variable {h0 h h' : Heap} {P Q : HP} {F : List HP}

theorem St.conseq {l l' : List HP} (hs : St h0 h l) (t : ∀ m, star l m → star l' m) : St h0 h l' := by
  obtain ⟨e, m, s, a, b⟩ := hs
  exact ⟨e, m, t m s, a, b⟩
theorem St.start (h : Heap) : St h h [] := ⟨Ext.refl h, fun _ _ => none, trivial, fun _ _ _ _ h => by simp at h, fun _ _ _ h => by simp at h⟩
theorem St.up1 {A B : HP} (hs : St h0 h (A :: B :: F)) : St h0 h (B :: A :: F) := hs.conseq fun _ => star_swap
theorem St.up2 {A B C : HP} (hs : St h0 h (A :: B :: C :: F)) : St h0 h (C :: A :: B :: F) := hs.conseq fun _ s => star_swap (star_tail (fun _ => star_swap) s)
theorem St.up3 {A B C D : HP} (hs : St h0 h (A :: B :: C :: D :: F)) : St h0 h (D :: A :: B :: C :: F) :=
  hs.conseq fun _ s => star_swap (star_tail (fun _ s => star_swap (star_tail (fun _ => star_swap) s)) s)
theorem St.up4 {A B C D E : HP} (hs : St h0 h (A :: B :: C :: D :: E :: F)) : St h0 h (E :: A :: B :: C :: D :: F) :=
  hs.conseq fun _ s => star_swap (star_tail (fun _ s => star_swap (star_tail (fun _ s => star_swap (star_tail (fun _ => star_swap) s)) s)) s)
theorem St.up5 {A B C D E G : HP} (hs : St h0 h (A :: B :: C :: D :: E :: G :: F)) : St h0 h (G :: A :: B :: C :: D :: E :: F) :=
  hs.conseq fun _ s => star_swap (star_tail (fun _ s => star_swap (star_tail (fun _ s => star_swap (star_tail (fun _ s => star_swap (star_tail (fun _ => star_swap) s)) s)) s)) s)
/-- The first goes behind the second, third .. -/
theorem St.dn2 {A B C : HP} (hs : St h0 h (A :: B :: C :: F)) : St h0 h (B :: C :: A :: F) := hs.up2.up2
theorem St.dn3 {A B C D : HP} (hs : St h0 h (A :: B :: C :: D :: F)) : St h0 h (B :: C :: D :: A :: F) := hs.up3.up3.up3
theorem St.drop (hs : St h0 h (P :: F)) : St h0 h F := hs.conseq fun _ ⟨_, _, _, b, _, _, s⟩ => star_le s b
theorem St.impl (hs : St h0 h (P :: F)) (t : ∀ m, P m → Q m) : St h0 h (Q :: F) := hs.conseq fun _ => star_head t
theorem St.flat {l : List HP} (hs : St h0 h (star l :: F)) : St h0 h (l ++ F) := hs.conseq fun _ => star_flat
theorem St.pack {l : List HP} (hs : St h0 h (l ++ F)) : St h0 h (star l :: F) := hs.conseq fun _ => star_pack
theorem St.ex {α : Type} {P : α → HP} (hs : St h0 h ((fun m => ∃ x, P x m) :: F)) : ∃ x, St h0 h (P x :: F) := by
  obtain ⟨e, m, ⟨m1, m2, a, b, c, ⟨x, p⟩, s⟩, t, u⟩ := hs
  exact ⟨x, e, m, ⟨m1, m2, a, b, c, p, s⟩, t, u⟩
theorem St.pure {φ : Prop} (hs : St h0 h (P :: F)) (t : ∀ m, P m → φ) : φ := by
  obtain ⟨e, m, ⟨m1, m2, a, b, c, p, s⟩, _, _⟩ := hs
  exact t _ p
theorem St.and {φ : Prop} (hs : St h0 h ((fun m => φ ∧ P m) :: F)) : φ ∧ St h0 h (P :: F) := ⟨hs.pure fun _ h => h.1, hs.impl fun _ h => h.2⟩
theorem St.at (hs : St h0 h (P :: F)) : At h P := by
  obtain ⟨e, m, ⟨m1, m2, a, b, c, p, s⟩, t, u⟩ := hs
  exact ⟨m1, t.le a, p⟩
theorem At.impl (a : At h P) (t : ∀ m, P m → Q m) : At h Q := by
  obtain ⟨m, s, p⟩ := a
  exact ⟨m, s, t _ p⟩
theorem At.ext (a : At h P) (e : Ext h h') : At h' P := by
  obtain ⟨m, s, p⟩ := a
  exact ⟨m, s.ext e, p⟩
theorem New.st {l : List HP} (n : New h0 h l) : St h0 h l := by
  obtain ⟨e, m, s, a, b⟩ := n
  exact ⟨e, m, s, a, fun x o v => b x o (v, false)⟩
theorem New.start (h : Heap) : New h h [] := ⟨Ext.refl h, fun _ _ => none, trivial, fun _ _ _ _ h => by simp at h, fun _ _ _ h => by simp at h⟩
/-- What a call has made stands beside what was there. -/
theorem St.join {l l' : List HP} (hs : St h0 h l) (n : New h h' l') : St h0 h' (l' ++ l) := by
  obtain ⟨e, m, s, a, b⟩ := hs
  obtain ⟨e', m', s', a', b'⟩ := n
  have c : Comp m' m := fun x o y z h1 h2 => by have := b' _ _ _ h1; have := a.lt h2; omega
  refine ⟨e.trans e', radd m' m, ?_, ?_, ?_⟩
  · exact star_flat ⟨m', m, rle_left _ _, rle_right c, c, s', s⟩
  · intro x o v r hx
    unfold radd at hx
    split at hx
    · rename_i w ew; exact a' _ _ _ _ (ew.trans hx)
    · exact a.ext e' _ _ _ _ hx
  · intro x o v hx
    unfold radd at hx
    split at hx
    · rename_i w ew; have := b' _ _ _ (ew.trans hx); have := e.size; omega
    · exact b _ _ _ hx
theorem St.keep {l : List HP} (hs : St h0 h l) (e : Ext h h') : St h0 h' l := by
  obtain ⟨e0, m, s, a, b⟩ := hs
  exact ⟨e0.trans e, m, s, a.ext e, b⟩
theorem New.join {l l' : List HP} (hs : New h0 h l) (n : New h h' l') : New h0 h' (l' ++ l) := by
  obtain ⟨e, m, s, a, b⟩ := hs
  obtain ⟨e', m', s', a', b'⟩ := n
  have c : Comp m' m := fun x o y z h1 h2 => by have := b' _ _ _ h1; have := a.lt h2; omega
  refine ⟨e.trans e', radd m' m, ?_, ?_, ?_⟩
  · exact star_flat ⟨m', m, rle_left _ _, rle_right c, c, s', s⟩
  · intro x o v r hx
    unfold radd at hx
    split at hx
    · rename_i w ew; exact a' _ _ _ _ (ew.trans hx)
    · exact a.ext e' _ _ _ _ hx
  · intro x o v hx
    unfold radd at hx
    split at hx
    · rename_i w ew; have := b' _ _ _ (ew.trans hx); have := e.size; omega
    · exact b _ _ _ hx

/- ### Owned alone -/
def flagged (m : Res) : Res := fun b o => match m b o with | some (v, false) => some (v, false) | _ => none
/-- It needs nothing that is read by all. -/
def Owns (P : HP) : Prop := ∀ m, P m → P (flagged m)
def OwnsL : List HP → Prop
  | [] => True
  | P :: r => Owns P ∧ OwnsL r
theorem flagged_le (m : Res) : rle (flagged m) m := fun b o x h => by
  unfold flagged at h
  split at h
  · rename_i v e; cases h; exact e
  · cases h
theorem flagged_mono {m n : Res} (a : rle m n) : rle (flagged m) (flagged n) := fun b o x h => by
  unfold flagged at h ⊢
  split at h
  · rename_i v e; cases h; rw [a _ _ _ e]
  · cases h
theorem star_owned : ∀ {l : List HP}, OwnsL l → ∀ {m : Res}, star l m → star l (flagged m)
  | [], _, _, _ => trivial
  | P :: r, ⟨o1, o2⟩, m, ⟨m1, m2, a, b, c, p, s⟩ => ⟨flagged m1, flagged m2, flagged_mono a, flagged_mono b, c.le (flagged_le _) (flagged_le _), o1 _ p, star_owned o2 s⟩
theorem St.new {l : List HP} (hs : St h h' l) (o : OwnsL l) : New h h' l := by
  obtain ⟨e, m, s, a, b⟩ := hs
  refine ⟨e, flagged m, star_owned o s, a.le (flagged_le _), fun x y z hz => ?_⟩
  have hz' := flagged_le _ _ _ _ hz
  unfold flagged at hz
  split at hz
  · rename_i v e; cases hz; exact b _ _ _ e
  · cases hz
theorem owns_star {l : List HP} (o : OwnsL l) : Owns (star l) := fun _ s => star_owned o s

/- ### Cells -/
/-- Some cells, one behind the other. -/
def pts (b o : Nat) (r : Bool) (vs : List Value) : HP := fun m => ∀ i v, vs[i]? = some v → m b (o + i) = some (v, r)
theorem owns_pts {b o : Nat} {vs : List Value} : Owns (pts b o false vs) := fun m p i v e => by unfold flagged; rw [p i v e]
theorem pts_cell {b o : Nat} {r : Bool} {vs : List Value} (a : At h (pts b o r vs)) {i : Nat} {v : Value} (e : vs[i]? = some v) : cell h (Addr.mk b (o + i) none) = some v := by
  obtain ⟨m, s, p⟩ := a
  exact (s _ _ _ _ (p i v e)).1
theorem pts_row {b o : Nat} {r : Bool} {vs : List Value} (a : At h (pts b o r vs)) {i n : Nat} (hn : i + n ≤ vs.length) : row h (Addr.mk b (o + i) none) n = some ((vs.drop i).take n).toArray := by
  have hl : ((vs.drop i).take n).length = n := by simp; omega
  have := row_of (h := h) (a := Addr.mk b (o + i) none) ((vs.drop i).take n) fun j hj => by
    rw [add_mk, Nat.add_assoc]
    refine pts_cell a ?_
    rw [List.getElem_take, List.getElem_drop]
    exact List.getElem?_eq_getElem _
  rw [hl] at this
  exact this
theorem pts_app {b o : Nat} {r : Bool} {xs ys : List Value} {m : Res} : pts b o r (xs ++ ys) m ↔ pts b o r xs m ∧ pts b (o + xs.length) r ys m := by
  constructor
  · intro p
    refine ⟨fun i v e => p i v (by rw [List.getElem?_append_left (by exact (List.getElem?_eq_some_iff.1 e).1)]; exact e), fun i v e => ?_⟩
    rw [Nat.add_assoc]
    exact p _ _ (by rw [List.getElem?_append_right (by omega), Nat.add_sub_cancel_left]; exact e)
  · rintro ⟨p, q⟩ i v e
    by_cases hi : i < xs.length
    · exact p i v (by rw [List.getElem?_append_left hi] at e; exact e)
    · rw [List.getElem?_append_right (by omega)] at e
      have := q _ _ e
      rw [show o + xs.length + (i - xs.length) = o + i by omega] at this
      exact this
def rset (m : Res) (b o : Nat) (v : Value) : Res := fun b' o' => if b' = b ∧ o' = o then some (v, false) else m b' o'
theorem cell_put {h : Heap} {b o : Nat} {u v : Value} (hc : cell h (Addr.mk b o none) = some u) (b' o' : Nat) : cell (put h (Addr.mk b o none) v) (Addr.mk b' o' none) = if b' = b ∧ o' = o then some v else cell h (Addr.mk b' o' none) := by
  by_cases hb : b' = b
  · subst hb
    unfold cell put at *
    simp only [Array.getElem?_modify] at hc ⊢
    cases hh : h[b']? with
    | none => simp [hh] at hc
    | some ob =>
      cases ob <;> simp [hh] at hc ⊢
      rename_i c t f
      have ho : o < c.size := by
        by_cases ho : o < c.size
        · exact ho
        · rw [Array.getElem?_eq_none (by omega)] at hc; cases hc
      rw [Array.getElem?_setIfInBounds]
      by_cases hoo : o = o'
      · subst hoo; simp [ho]
      · simp [hoo, Ne.symm hoo]
  · have : (put h (Addr.mk b o none) v)[b']? = h[b']? := put_other (fun e => hb e.symm)
    rw [cell_same (h := h) this]
    simp [hb]
theorem frz_put' {h : Heap} {b o : Nat} {v : Value} (b' o' : Nat) : frz (put h (Addr.mk b o none) v) (Addr.mk b' o' none) = frz h (Addr.mk b' o' none) := by
  by_cases hb : b' = b
  · subst hb
    unfold frz put
    simp only [Array.getElem?_modify]
    cases hh : h[b']? with
    | none => simp
    | some ob => cases ob <;> simp
  · exact frz_same (put_other (fun e => hb e.symm))
/-- One cell stored. -/
theorem St.put {b o : Nat} {v : Value} (hs : St h0 h (P :: F)) (hp : ∀ m, P m → ∃ u, m b o = some (u, false)) (hq : ∀ m, P m → Q (rset m b o v)) : St h0 (put h (Addr.mk b o none) v) (Q :: F) ∧ wrt h (Addr.mk b o none) := by
  obtain ⟨e, m, ⟨m1, m2, a, bb, c, p, s⟩, t, u⟩ := hs
  obtain ⟨w, hw⟩ := hp _ p
  have hm := a _ _ _ hw
  have hc := t _ _ _ _ hm
  refine ⟨⟨?_, rset m b o v, ⟨rset m1 b o v, m2, ?_, ?_, ?_, hq _ p, s⟩, ?_, ?_⟩, by rw [hc.1]; rfl, hc.2 rfl⟩
  · refine fun x hx => (put_other (h := h) (fun e => ?_)).trans (e x hx)
    have := u _ _ _ hm
    simp at e
    omega
  · intro x y z hz
    unfold rset at *
    split at hz
    · rename_i hxy; rw [if_pos hxy]; exact hz
    · rename_i hxy; rw [if_neg hxy]; exact a _ _ _ hz
  · intro x y z hz
    unfold rset
    split
    · rename_i hxy
      obtain ⟨rfl, rfl⟩ := hxy
      have := c _ _ _ _ hw hz
      simp at this
    · exact bb _ _ _ hz
  · intro x y z z' hz hz'
    unfold rset at hz
    split at hz
    · rename_i hxy
      obtain ⟨rfl, rfl⟩ := hxy
      have := c _ _ _ _ hw hz'
      simp at this
    · exact c _ _ _ _ hz hz'
  · intro x y z r hz
    unfold rset at hz
    rw [cell_put hc.1, frz_put']
    split at hz
    · rename_i hxy
      rw [if_pos hxy]
      cases hz
      obtain ⟨rfl, rfl⟩ := hxy
      exact ⟨rfl, fun _ => hc.2 rfl⟩
    · rename_i hxy; rw [if_neg hxy]; exact t _ _ _ _ hz
  · intro x y z hz
    unfold rset at hz
    split at hz
    · rename_i hxy
      obtain ⟨rfl, rfl⟩ := hxy
      exact u _ _ _ hm
    · exact u _ _ _ hz
theorem pts_set {b o i : Nat} {v : Value} {vs : List Value} {m : Res} (p : pts b o false vs m) : pts b o false (vs.set i v) (rset m b (o + i) v) := fun j w e => by
  unfold rset
  rw [List.getElem?_set] at e
  split at e
  · rename_i hij; subst hij
    split at e
    · cases e; simp
    · cases e
  · rename_i hij
    rw [if_neg (by omega)]
    exact p j w e
theorem St.storeP {b o i : Nat} {v : Value} {vs : List Value} {K : Heap → Prop} (hs : St h0 h (pts b o false vs :: F)) (hi : i < vs.length) (hv : v.oneCell' = true)
    (hk : ∀ h', St h0 h' (pts b o false (vs.set i v) :: F) → K h') : storeP none h (Addr.mk b (o + i) none) v K := by
  obtain ⟨s, w⟩ := hs.put (b := b) (o := o + i) (v := v) (Q := pts b o false (vs.set i v)) (fun m p => ⟨vs[i], p i _ (List.getElem?_eq_getElem hi)⟩) (fun m p => pts_set p)
  exact ⟨hv, w, fun h' e => by subst e; exact hk _ s⟩
/-- List l put in the place of what stands from i on. -/
def lay (vs : List Value) (i : Nat) (l : List Value) : List Value := vs.take i ++ (l ++ vs.drop (i + l.length))
theorem lay_length {vs l : List Value} {i : Nat} (hle : i + l.length ≤ vs.length) : (lay vs i l).length = vs.length := by simp [lay]; omega
theorem lay_nil (vs : List Value) (i : Nat) : lay vs i [] = vs := by simp [lay]
theorem lay_cons {vs l : List Value} {i : Nat} {v : Value} (hle : i < vs.length) : lay (vs.set i v) (i + 1) l = lay vs i (v :: l) := by
  unfold lay
  rw [List.take_succ_eq_append_getElem (by simpa using hle), List.getElem_set_self, List.take_set_of_le (Nat.le_refl _), List.drop_set_of_lt (by omega)]
  simp [Nat.add_assoc, Nat.add_comm 1]
theorem lay_all {vs l : List Value} (hl : l.length = vs.length) : lay vs 0 l = l := by simp [lay, hl]
theorem St.putRow {b o : Nat} : ∀ (l vs : List Value) (h : Heap) (i j : Nat), St h0 h (pts b o false vs :: F) → j + i + l.length ≤ vs.length →
    St h0 (Vc.putRow h (Addr.mk b (o + j) none) i l) (pts b o false (lay vs (j + i) l) :: F) ∧ ∀ k, i ≤ k → k < i + l.length → wrt h (Addr.mk b (o + j + k) none)
  | [], vs, h, i, j, hs, _ => ⟨by rw [lay_nil]; exact hs, fun k h1 h2 => by simp at h2; omega⟩
  | v :: r, vs, h, i, j, hs, hle => by
    simp only [List.length_cons] at hle
    obtain ⟨s, w⟩ := hs.put (b := b) (o := o + (j + i)) (v := v) (Q := pts b o false (vs.set (j + i) v)) (fun m p => ⟨_, p (j + i) _ (List.getElem?_eq_getElem (by omega))⟩) (fun m p => pts_set p)
    obtain ⟨s2, w2⟩ := St.putRow r (vs.set (j + i) v) _ (i + 1) j s (by simp; omega)
    refine ⟨?_, fun k h1 h2 => ?_⟩
    · unfold Vc.putRow
      rw [add_mk, show o + j + i = o + (j + i) by omega]
      rw [show j + (i + 1) = j + i + 1 by omega, lay_cons (by omega)] at s2
      exact s2
    · by_cases hk : k = i
      · subst hk; rw [show o + j + k = o + (j + k) by omega]; exact w
      · have := w2 k (by omega) (by simp at h2; omega)
        unfold wrt at this ⊢
        rw [frz_put'] at this
        refine ⟨?_, this.2⟩
        have h3 := this.1
        rw [cell_put (u := (vs[j + i]'(by omega))) (by exact pts_cell hs.at (List.getElem?_eq_getElem _))] at h3
        rw [if_neg (by omega)] at h3
        exact h3
theorem St.storeRow {b o i n : Nat} {v : Value} {vs : List Value} {K : Heap → Prop} (hs : St h0 h (pts b o false vs :: F)) (hn : v.cells.size = n) (hi : i + n ≤ vs.length) (hv : one v.cells)
    (hk : ∀ h', St h0 h' (pts b o false (lay vs i v.cells.toList) :: F) → K h') : Vc.storeP (some n) h (Addr.mk b (o + i) none) v K := by
  obtain ⟨s, w⟩ := St.putRow v.cells.toList vs h 0 i hs (by simp; omega)
  refine ⟨hn, hv, fun k hk => ?_, fun h' e => by subst e; exact hk _ s⟩
  rw [add_mk]
  exact w k (Nat.zero_le _) (by simp; omega)
/-- New memory. -/
theorem St.newBlk {t : TypeId} {cs : Array Value} {K : Nat → Heap → Prop} (hs : St h0 h F) (hk : ∀ b h', h.size ≤ b → St h0 h' (pts b 0 false cs.toList :: F) → Ext h h' → K b h') : newBlk h t cs K := by
  intro b h' e1 e2
  subst e1; subst e2
  refine hk _ _ (Nat.le_refl _) ?_ (Ext.push h _)
  refine hs.join (l' := [pts h.size 0 false cs.toList]) ⟨Ext.push h _, fun b o => if b = h.size then (cs[o]?).map (·, false) else none, ?_, ?_, ?_⟩
  · exact ⟨_, fun _ _ => none, rle.refl _, fun _ _ _ h => by simp at h, fun _ _ _ _ _ h => by simp at h, fun i v e => by simp at e; simp [e], trivial⟩
  · intro b o v r e
    simp only at e
    split at e
    · rename_i hb; subst hb
      cases hc : cs[o]? with
      | none => simp [hc] at e
      | some w =>
        simp [hc] at e
        obtain ⟨rfl, rfl⟩ := e
        exact ⟨by simp [cell, hc], fun _ => by simp [frz]⟩
    · cases e
  · intro b o x e
    simp only at e
    split at e
    · omega
    · cases e
theorem New.newBlk {t : TypeId} {cs : Array Value} {K : Nat → Heap → Prop} (hk : ∀ b h', New h h' [pts b 0 false cs.toList] → K b h') : Vc.newBlk h t cs K :=
  (St.start h).newBlk fun b h' _ s _ => hk b h' (s.new ⟨owns_pts, trivial⟩)

/- ### Slices -/
/-- A slice whose cells, to the capacity, are ours. -/
def own (sz : Nat) (p : Option Addr) (l c : Nat) (vs : List Value) : HP := fun m =>
  vs.length = l * sz ∧ l ≤ c ∧ c ≤ maxLen ∧ ((p = none ∧ c = 0) ∨ ∃ b o rest, p = some (Addr.mk b o none) ∧ rest.length = (c - l) * sz ∧ pts b o false (vs ++ rest) m)
/-- A slice that is read alone. -/
def rdo (sz : Nat) (p : Option Addr) (l : Nat) (vs : List Value) : HP := fun m =>
  vs.length = l * sz ∧ (l * sz = 0 ∨ ∃ b o, p = some (Addr.mk b o none) ∧ pts b o true vs m)
theorem owns_own {sz : Nat} {p : Option Addr} {l c : Nat} {vs : List Value} : Owns (own sz p l c vs) := fun m ⟨a, b, c, d⟩ =>
  ⟨a, b, c, d.imp id fun ⟨x, o, rest, e, f, g⟩ => ⟨x, o, rest, e, f, owns_pts _ g⟩⟩
theorem src_zero (h : Heap) (p : Option Addr) : src h p 0 = some #[] := by cases p <;> rfl
theorem rd_own {sz : Nat} {p : Option Addr} {l c : Nat} {vs : List Value} (a : At h (own sz p l c vs)) : Rd h sz p l vs := by
  obtain ⟨m, s, e1, e2, e3, e4⟩ := a
  refine ⟨e1, ?_⟩
  rcases e4 with ⟨rfl, rfl⟩ | ⟨b, o, rest, rfl, hr, hp⟩
  · have : l = 0 := by omega
    subst this
    have : vs = [] := List.eq_nil_of_length_eq_zero (by simpa using e1)
    subst this
    simp [src]
  · have := pts_row (i := 0) (n := l * sz) ⟨m, s, (pts_app.1 hp).1⟩ (by omega)
    simp only [Nat.add_zero, List.drop_zero] at this
    simp only [src]
    rw [this, List.take_of_length_le (by omega)]
theorem rd_rdo {sz : Nat} {p : Option Addr} {l : Nat} {vs : List Value} (a : At h (rdo sz p l vs)) : Rd h sz p l vs := by
  obtain ⟨m, s, e1, e2⟩ := a
  refine ⟨e1, ?_⟩
  rcases e2 with hz | ⟨b, o, rfl, hp⟩
  · rw [hz, src_zero]
    have : vs = [] := List.eq_nil_of_length_eq_zero (by omega)
    subst this; rfl
  · have := pts_row (i := 0) (n := l * sz) ⟨m, s, hp⟩ (by omega)
    simp only [Nat.add_zero, List.drop_zero] at this
    simp only [src]
    rw [this, List.take_of_length_le (by omega)]
theorem bs_own {p : Option Addr} {l c : Nat} {bs : List UInt8} (a : At h (own 1 p l c (bs.map bv))) : Bs h p l bs := ⟨by have := (rd_own a).1; simpa using this, rd_own a⟩
theorem bs_rdo {p : Option Addr} {l : Nat} {bs : List UInt8} (a : At h (rdo 1 p l (bs.map bv))) : Bs h p l bs := ⟨by have := (rd_rdo a).1; simpa using this, rd_rdo a⟩
theorem own_nil (sz : Nat) (m : Res) : own sz none 0 0 [] m := ⟨by simp, Nat.le_refl _, Nat.zero_le _, .inl ⟨rfl, rfl⟩⟩
/-- What needs no cell may be added. -/
theorem St.add (hs : St h0 h F) (t : ∀ m, P m) : St h0 h (P :: F) := hs.conseq fun m s => ⟨fun _ _ => none, m, fun _ _ _ h => by simp at h, rle.refl _, fun _ _ _ _ h => by simp at h, t _, s⟩
theorem St.nil (hs : St h0 h F) (sz : Nat) : St h0 h (own sz none 0 0 [] :: F) := hs.add (own_nil sz)
theorem St.len {sz : Nat} {p : Option Addr} {l c : Nat} {vs : List Value} (hs : St h0 h (own sz p l c vs :: F)) : vs.length = l * sz ∧ l ≤ c ∧ c ≤ maxLen := hs.pure fun _ ⟨a, b, c, _⟩ => ⟨a, b, c⟩
theorem St.blen {p : Option Addr} {l c : Nat} {bs : List UInt8} (hs : St h0 h (own 1 p l c (bs.map bv) :: F)) : bs.length = l ∧ l ≤ c ∧ c ≤ maxLen := by
  have := hs.len
  simpa using this
/-- All that was ours is read alone from now on. -/
def shared (m : Res) : Res := fun b o => (m b o).map fun x => (x.1, true)
theorem St.share (hs : St h0 h (P :: F)) (t : ∀ m, P m → Q (shared m)) (ho : Owns P) : St h0 h (Q :: F) := by
  obtain ⟨e, m, ⟨m1', m2, a', b, c', p', s⟩, st, u⟩ := hs
  have p := ho _ p'
  have a : rle (flagged m1') m := (flagged_le _).trans a'
  have c : Comp (flagged m1') m2 := c'.le (flagged_le _) (rle.refl _)
  have key : ∀ x o y z, flagged m1' x o = some y → m2 x o = some z → False := fun x o y z h1 h2 => by
    have h3 := (c _ _ _ _ h1 h2).2
    unfold flagged at h1
    split at h1
    · cases h1; simp at h3
    · cases h1
  have cs : Comp (shared (flagged m1')) m2 := fun x o y z h1 h2 => by
    unfold shared at h1
    cases hf : flagged m1' x o with
    | none => simp [hf] at h1
    | some w => exact (key _ _ _ _ hf h2).elim
  refine ⟨e, radd (shared (flagged m1')) m2, ⟨shared (flagged m1'), m2, rle_left _ _, rle_right cs, cs, t _ p, s⟩, ?_, ?_⟩
  · intro x o v r hx
    unfold radd at hx
    split at hx
    · rename_i w ew
      cases hx
      unfold shared at ew
      cases hf : flagged m1' x o with
      | none => simp [hf] at ew
      | some y =>
        simp [hf] at ew
        obtain ⟨rfl, rfl⟩ := ew
        exact ⟨(st _ _ _ _ (a _ _ _ hf)).1, fun h => by cases h⟩
    · exact st _ _ _ _ (b _ _ _ hx)
  · intro x o v hx
    unfold radd at hx
    split at hx
    · rename_i w ew
      cases hx
      unfold shared at ew
      cases hf : flagged m1' x o <;> simp [hf] at ew
    · exact u _ _ _ (b _ _ _ hx)
theorem pts_shared {b o : Nat} {r : Bool} {vs : List Value} {m : Res} (p : pts b o r vs m) : pts b o true vs (shared m) := fun i v e => by unfold shared; rw [p i v e]; rfl
theorem own_shared {sz : Nat} {p : Option Addr} {l c : Nat} {vs : List Value} {m : Res} (q : own sz p l c vs m) : rdo sz p l vs (shared m) := by
  obtain ⟨a, b, c, d⟩ := q
  refine ⟨a, ?_⟩
  rcases d with ⟨rfl, rfl⟩ | ⟨x, o, rest, rfl, hr, hp⟩
  · have : l = 0 := by omega
    exact .inl (by rw [this]; simp)
  · exact .inr ⟨x, o, rfl, pts_shared (pts_app.1 hp).1⟩
theorem St.ro {sz : Nat} {p : Option Addr} {l c : Nat} {vs : List Value} (hs : St h0 h (own sz p l c vs :: F)) : St h0 h (rdo sz p l vs :: F) := hs.share (fun _ => own_shared) owns_own
/-- What is read alone may be had twice. -/
def Dup (P : HP) : Prop := ∀ m, P m → ∃ m', rle m' m ∧ P m' ∧ ∀ b o x, m' b o = some x → x.2 = true
theorem St.dup (hs : St h0 h (P :: F)) (d : Dup P) : St h0 h (P :: P :: F) := hs.conseq fun m ⟨m1, m2, a, b, c, p, s⟩ => by
  obtain ⟨m', le, p', all⟩ := d _ p
  refine ⟨m', m, le.trans a, rle.refl _, fun x o y z h1 h2 => ?_, p', m1, m2, a, b, c, p, s⟩
  have := a _ _ _ (le _ _ _ h1)
  rw [this] at h2
  cases h2
  exact ⟨rfl, all _ _ _ h1⟩
def tops (m : Res) : Res := fun b o => match m b o with | some (v, true) => some (v, true) | _ => none
theorem tops_le (m : Res) : rle (tops m) m := fun b o x h => by
  unfold tops at h
  split at h
  · rename_i v e; cases h; exact e
  · cases h
theorem tops_all (m : Res) : ∀ b o x, tops m b o = some x → x.2 = true := fun b o x h => by
  unfold tops at h
  split at h
  · cases h; rfl
  · cases h
theorem dup_of (t : ∀ m, P m → P (tops m)) : Dup P := fun m p => ⟨tops m, tops_le m, t m p, tops_all m⟩
theorem pts_tops {b o : Nat} {vs : List Value} {m : Res} (p : pts b o true vs m) : pts b o true vs (tops m) := fun i v e => by unfold tops; rw [p i v e]
theorem rdo_tops {sz : Nat} {p : Option Addr} {l : Nat} {vs : List Value} {m : Res} (q : rdo sz p l vs m) : rdo sz p l vs (tops m) :=
  ⟨q.1, q.2.imp id fun ⟨b, o, e, p⟩ => ⟨b, o, e, pts_tops p⟩⟩
theorem dup_rdo {sz : Nat} {p : Option Addr} {l : Nat} {vs : List Value} : Dup (rdo sz p l vs) := dup_of fun _ => rdo_tops
/-- What came in may be read by all. -/
theorem St.old {sz : Nat} {p : Option Addr} {l : Nat} {vs : List Value} (hs : St h0 h F) (hr : Rd h0 sz p l vs) : St h0 h (rdo sz p l vs :: F) := by
  by_cases hz : l * sz = 0
  · exact hs.add fun m => ⟨hr.1, .inl hz⟩
  · obtain ⟨a, rfl, _⟩ := hr.cell (i := 0) (by rw [hr.1]; omega)
    have hcell : ∀ i (hi : i < vs.length), cell h0 (a.add i) = some vs[i] := fun i hi => by
      obtain ⟨a', e, hc⟩ := hr.cell hi
      cases e; exact hc
    have hsp : a.spot = none := by
      have := hcell 0 (by rw [hr.1]; omega)
      unfold cell at this
      have hs0 : (a.add 0).spot = a.spot := by simp [Addr.add]
      rw [hs0] at this
      split at this
      · split at this
        · cases this
        · rename_i hn; simpa using hn
      · cases this
    obtain ⟨b, o, sp⟩ := a
    simp only at hsp
    subst hsp
    obtain ⟨e, m, s, t, u⟩ := hs
    let n : Res := fun b' o' => if b' = b ∧ o ≤ o' then (vs[o' - o]?).map (·, true) else none
    have hn : ∀ b' o' v r, n b' o' = some (v, r) → r = true ∧ cell h0 (Addr.mk b' o' none) = some v := fun b' o' v r hx => by
      simp only [n] at hx
      split at hx
      · rename_i hb
        obtain ⟨rfl, hle⟩ := hb
        cases hv : vs[o' - o]? with
        | none => simp [hv] at hx
        | some w =>
          simp [hv] at hx
          obtain ⟨rfl, rfl⟩ := hx
          obtain ⟨hlt, he⟩ := List.getElem?_eq_some_iff.1 hv
          have := hcell _ hlt
          rw [add_mk, show o + (o' - o) = o' by omega, he] at this
          exact ⟨rfl, this⟩
      · cases hx
    have hlt : ∀ b' o' x, n b' o' = some x → b' < h0.size := fun b' o' x hx => by
      have := (hn b' o' x.1 x.2 hx).2
      unfold cell at this
      by_cases hb : b' < h0.size
      · exact hb
      · rw [Array.getElem?_eq_none (by simpa using hb)] at this
        simp at this
    have c : Comp n m := fun x y z w h1 h2 => by
      have hz := hn _ _ z.1 z.2 h1
      have hb := hlt _ _ _ h1
      have hw := t _ _ w.1 w.2 h2
      rw [cell_same (a := Addr.mk x y none) (e x hb), hz.2] at hw
      have hv : z.1 = w.1 := by have := hw.1; simpa using this
      have hf : w.2 = true := by
        cases hw2 : w.2 with
        | true => rfl
        | false =>
          have := u x y w.1 (by rw [h2, ← hw2])
          omega
      exact ⟨Prod.ext hv (hz.1.trans hf.symm), hz.1⟩
    refine ⟨e, radd n m, ⟨n, m, rle_left _ _, rle_right c, c, ⟨hr.1, .inr ⟨b, o, rfl, fun i v hv => ?_⟩⟩, s⟩, ?_, ?_⟩
    · simp only [n]
      rw [if_pos (show True ∧ o ≤ o + i from ⟨trivial, by omega⟩), Nat.add_sub_cancel_left, hv]; rfl
    · intro x y v r hx
      unfold radd at hx
      split at hx
      · rename_i w ew
        have := hn _ _ _ _ (ew.trans hx)
        refine ⟨e.cell this.2, fun hf => by rw [this.1] at hf; cases hf⟩
      · exact t _ _ _ _ hx
    · intro x y v hx
      unfold radd at hx
      split at hx
      · rename_i w ew
        have := hn _ _ _ _ (ew.trans hx)
        cases this.1
      · exact u _ _ _ hx

/-- append, to what is ours. -/
theorem St.append {e : TypeId} {sz bytes : Nat} {zero : Array Value} {p q : Option Addr} {l c n : Nat} {vs xs : List Value} {K : Option Addr → Nat → Nat → Heap → Prop}
    (hs : St h0 h (own sz p l c vs :: F)) (hr : Rd h sz q n xs) (hone : ∀ v ∈ xs, v.oneCell' = true) (hzs : zero.size = sz) (hmax : (l + n) * bytes ≤ 140737488355328) (hml : l + n ≤ maxLen)
    (hk : ∀ p' c' h', St h0 h' (own sz p' (l + n) c' (vs ++ xs) :: F) → (p' = none → p = none ∧ n = 0) → K p' (l + n) c' h') :
    appendP e sz bytes zero p l c q n h K := by
  obtain ⟨h1, h2, h3⟩ := hs.len
  have hx := hr.1
  have hsrc := (rd_own hs.at).2
  refine ⟨xs.toArray, hr.2, by simpa [one] using hone, fun hc => ?_, fun hc => ⟨hml, hmax, vs.toArray, hsrc, fun c' b h' e1 e2 e3 e4 => ?_⟩⟩
  · have hcases : (p = none ∧ c = 0) ∨ ∃ b o rest, p = some (Addr.mk b o none) ∧ rest.length = (c - l) * sz ∧ St h0 h (pts b o false (vs ++ rest) :: F) := by
      obtain ⟨e, m, ⟨m1, m2, a, b, cc, ⟨_, _, _, d⟩, s⟩, t, u⟩ := hs
      rcases d with d | ⟨x, o, rest, h1, h2, h3⟩
      · exact .inl d
      · exact .inr ⟨x, o, rest, h1, h2, e, m, ⟨m1, m2, a, b, cc, h3, s⟩, t, u⟩
    rcases hcases with ⟨rfl, rfl⟩ | ⟨b, o, rest, rfl, hrl, hs'⟩
    · refine ⟨fun a ha => (by cases ha), fun h' e => ?_⟩
      simp only at e
      subst e
      have hl : l = 0 := by omega
      have hn : n = 0 := by omega
      subst hn
      have : xs = [] := List.eq_nil_of_length_eq_zero (by simpa using hx)
      subst this
      exact hk _ _ _ (by simpa using hs) (fun _ => ⟨rfl, rfl⟩)
    · have hm : (l + n) * sz ≤ c * sz := Nat.mul_le_mul_right sz hc
      rw [Nat.add_mul] at hm
      have hcl : (c - l) * sz = c * sz - l * sz := Nat.sub_mul _ _ _
      obtain ⟨s, w⟩ := St.putRow xs (vs ++ rest) h 0 (l * sz) hs' (by simp; omega)
      refine ⟨fun a ha k hk => ?_, fun h' e => ?_⟩
      · cases ha
        rw [add_mk, add_mk]
        exact w k (Nat.zero_le _) (by omega)
      · simp only [add_mk] at e
        subst e
        refine hk _ _ _ (s.impl fun m pm => ⟨by rw [List.length_append, h1, hx, Nat.add_mul], hc, h3, .inr ⟨b, o, rest.drop xs.length, rfl, ?_, ?_⟩⟩) (fun h0 => by cases h0)
        · have : (c - (l + n)) * sz = c * sz - (l * sz + n * sz) := by rw [Nat.sub_mul, Nat.add_mul]
          rw [List.length_drop, hrl, this]
          omega
        · have : lay (vs ++ rest) (l * sz + 0) xs = vs ++ xs ++ rest.drop xs.length := by
            unfold lay
            rw [Nat.add_zero, List.take_append_of_le_length (by omega), List.take_of_length_le (by omega), List.drop_append, List.drop_of_length_le (by omega)]
            rw [h1, Nat.add_sub_cancel_left]
            simp
          rw [this] at pm
          exact pm
  · subst e3; subst e4
    refine hk _ _ _ ?_ (fun h0 => by cases h0)
    have hnew : Vc.newBlk h e (vs.toArray ++ xs.toArray ++ Builtin.zeroCells zero (c' - (l + n))) fun b h' => b = h.size → h' = h.push (.cells (vs.toArray ++ xs.toArray ++ Builtin.zeroCells zero (c' - (l + n))) e) → St h0 h' (own sz (some ⟨b, 0, none⟩) (l + n) c' (vs ++ xs) :: F) := by
      refine hs.newBlk fun b h' hb s ex e1' e2' => ?_
      refine (s.up1.drop).impl fun m pm => ⟨by rw [List.length_append, h1, hx, Nat.add_mul], e1, e2, .inr ⟨b, 0, (Builtin.zeroCells zero (c' - (l + n))).toList, rfl, ?_, ?_⟩⟩
      · rw [Array.length_toList, size_zeroCells, hzs]
      · simpa using pm
    exact hnew _ _ rfl rfl rfl rfl
/-- A slice of what is ours, and the rest. -/
theorem own_split {sz : Nat} {p : Option Addr} {l c : Nat} {vs : List Value} {n : Nat} (hn : n ≤ l) (hs : St h0 h (own sz p l c vs :: F)) :
    St h0 h (own sz p n n (vs.take (n * sz)) :: own sz (if c = n then p else p.map (·.add (n * sz))) (l - n) (c - n) (vs.drop (n * sz)) :: F) := by
  obtain ⟨h1, h2, h3⟩ := hs.len
  have hnl : n * sz ≤ l * sz := Nat.mul_le_mul_right sz hn
  have hlc : l * sz ≤ c * sz := Nat.mul_le_mul_right sz h2
  refine St.flat (l := [_, _]) (hs.impl fun m ⟨_, _, _, d⟩ => ?_)
  rcases d with ⟨rfl, rfl⟩ | ⟨b, o, rest, rfl, hr, hp⟩
  · have : l = 0 := by omega
    have : n = 0 := by omega
    subst this
    exact ⟨fun _ _ => none, fun _ _ => none, fun _ _ _ h => by simp at h, fun _ _ _ h => by simp at h, fun _ _ _ _ h => by simp at h, ⟨by simp, Nat.le_refl _, Nat.zero_le _, .inl ⟨rfl, rfl⟩⟩,
      fun _ _ => none, fun _ _ => none, fun _ _ _ h => by simp at h, fun _ _ _ h => by simp at h, fun _ _ _ _ h => by simp at h, ⟨by simp; omega, by omega, by omega, .inl ⟨by simp, by omega⟩⟩, trivial⟩
  · have hsplit : vs ++ rest = vs.take (n * sz) ++ (vs.drop (n * sz) ++ rest) := by rw [← List.append_assoc, List.take_append_drop]
    rw [hsplit] at hp
    obtain ⟨p1, p2⟩ := pts_app.1 hp
    have htl : (vs.take (n * sz)).length = n * sz := by simp; omega
    rw [htl] at p2
    let cut (f : Nat → Bool) : Res := fun b' o' => if f o' then m b' o' else none
    have cle : ∀ f, rle (cut f) m := fun f b' o' x hx => by simp only [cut] at hx; split at hx; exact hx; cases hx
    refine ⟨cut (fun o' => decide (o' < o + n * sz)), cut (fun o' => decide (o + n * sz ≤ o')), cle _, cle _, ?_, ⟨by simp; omega, Nat.le_refl _, by omega, .inr ⟨b, o, [], rfl, by simp, ?_⟩⟩,
      _, fun _ _ => none, rle.refl _, fun _ _ _ h => by simp at h, fun _ _ _ _ _ h => by simp at h, ⟨?_, by omega, by omega, .inr ?_⟩, trivial⟩
    · intro x y z w h1 h2
      simp only [cut] at h1 h2
      split at h1
      · split at h2
        · rename_i a1 a2; simp at a1 a2; omega
        · cases h2
      · cases h1
    · intro i v e
      rw [List.append_nil] at e
      have hi := (List.getElem?_eq_some_iff.1 e).1
      simp only [cut]
      rw [if_pos (by simp; omega)]
      exact p1 i v e
    · rw [List.length_drop, h1, Nat.sub_mul]
    · by_cases hcn : c = n
      · rw [if_pos hcn]
        have hz : c - n - (l - n) = 0 := by omega
        refine ⟨b, o, [], rfl, by rw [hz]; simp, fun i v e => ?_⟩
        have : l = n := by omega
        subst this
        rw [List.append_nil, List.drop_of_length_le (by omega)] at e
        simp at e
      · rw [if_neg hcn]
        refine ⟨b, o + n * sz, rest, by simp [add_mk], ?_, fun i v e => ?_⟩
        · rw [hr]; congr 1; omega
        · simp only [cut]
          rw [if_pos (by simp)]
          exact p2 i v e
end
end Go.Vc
/- Parts of memory, second part: what is used over and over. Numbers. It speaks of no program. -/
set_option linter.unusedVariables false
namespace Go.Vc
open Go

section
variable {h0 h h' : Heap} {P Q : HP} {F : List HP}
theorem St.cell {b o i : Nat} {r : Bool} {vs : List Value} {v : Value} (hs : St h0 h (pts b o r vs :: F)) (e : vs[i]? = some v) : Vc.cell h (Addr.mk b (o + i) none) = some v := pts_cell hs.at e
theorem St.cell0 {b i : Nat} {r : Bool} {vs : List Value} {v : Value} (hs : St h0 h (pts b 0 r vs :: F)) (e : vs[i]? = some v) : Vc.cell h (Addr.mk b i none) = some v := by
  have := hs.cell e
  rwa [Nat.zero_add] at this
theorem St.row0 {b n : Nat} {r : Bool} {vs : List Value} (hs : St h0 h (pts b 0 r vs :: F)) (hn : vs.length = n) : Vc.row h (Addr.mk b 0 none) n = some vs.toArray := by
  have := pts_row (i := 0) (n := n) hs.at (by omega)
  simp only [Nat.zero_add, List.drop_zero] at this
  rw [this, List.take_of_length_le (by omega)]
theorem St.rowAt {b n i : Nat} {r : Bool} {vs : List Value} (hs : St h0 h (pts b 0 r vs :: F)) (hn : i + n ≤ vs.length) : Vc.row h (Addr.mk b i none) n = some ((vs.drop i).take n).toArray := by
  have := pts_row (i := i) (n := n) hs.at hn
  rwa [Nat.zero_add] at this
theorem St.storeAll {b n : Nat} {vs : List Value} {cs : Array Value} {K : Heap → Prop} (hs : St h0 h (pts b 0 false vs :: F)) (hn : vs.length = n) (hc : cs.size = n) (ho : one cs)
    (hk : ∀ h', St h0 h' (pts b 0 false cs.toList :: F) → K h') : Vc.storeP (some n) h (Addr.mk b 0 none) (.agg cs) K := by
  have hcs : (Value.agg cs).cells = cs := rfl
  have := hs.storeRow (o := 0) (i := 0) (n := n) (v := .agg cs) (K := K) (by rw [hcs]; exact hc) (by omega) (by rw [hcs]; exact ho) fun h' s => hk h' (by
    rw [hcs, lay_all (by simp [hc, hn])] at s; exact s)
  simpa using this
/-- The result's cell is written and read. -/
theorem St.ret {b n : Nat} {vs : List Value} {cs : Array Value} {R : Array Value → Heap → Prop} (hs : St h0 h (pts b 0 false vs :: F)) (hn : vs.length = n) (hc : cs.size = n) (ho : one cs)
    (hk : ∀ h', Ext h0 h' → R cs h') : Vc.storeP (some n) h (Addr.mk b 0 none) (.agg cs) fun h' => ∃ cs', Vc.row h' (Addr.mk b 0 none) n = some cs' ∧ R cs' h' :=
  hs.storeAll hn hc ho fun h' s => ⟨cs, by rw [s.row0 (by simp [hc])], hk h' s.ext⟩
theorem St.store0 {b i : Nat} {v : Value} {vs : List Value} {K : Heap → Prop} (hs : St h0 h (pts b 0 false vs :: F)) (hi : i < vs.length) (hv : v.oneCell' = true)
    (hk : ∀ h', St h0 h' (pts b 0 false (vs.set i v) :: F) → K h') : Vc.storeP none h (Addr.mk b i none) v K := by
  have := hs.storeP (i := i) (K := K) hi hv hk
  rwa [Nat.zero_add] at this
theorem one_list {l : List Value} (h : ∀ v ∈ l, v.oneCell' = true) : one l.toArray := fun v hv => h v (by simpa using hv)
theorem bcs_eq (l : List UInt8) : bcs l = l.map bv := rfl
theorem one_bcs (l : List UInt8) : ∀ v ∈ bcs l, v.oneCell' = true := bvs_one l
theorem bcs_length (l : List UInt8) : (bcs l).length = l.length := by simp [bcs]
theorem bcs_get {l : List UInt8} {i : Nat} (hi : i < l.length) : (bcs l)[i]? = some (.int .u8 (l[i].toNat : Int)) := by simp [bcs, hi]
theorem bcs_inj {a b : List UInt8} (h : bcs a = bcs b) : a = b := by
  unfold bcs at h
  exact (List.map_inj_right (by
    intro x y e
    simp at e
    exact UInt8.toNat_inj.1 (by omega))).1 h
theorem bcs_set (l : List UInt8) (i : Nat) (b : UInt8) : (bcs l).set i (.int .u8 (b.toNat : Int)) = bcs (l.set i b) := by simp [bcs, List.map_set]
theorem bcs_append (a b : List UInt8) : bcs (a ++ b) = bcs a ++ bcs b := by simp [bcs]
theorem bcs_take (a : List UInt8) (n : Nat) : bcs (a.take n) = (bcs a).take n := by simp [bcs, List.map_take]
theorem bcs_drop (a : List UInt8) (n : Nat) : bcs (a.drop n) = (bcs a).drop n := by simp [bcs, List.map_drop]
theorem bcs_replicate (n : Nat) (b : UInt8) : bcs (List.replicate n b) = List.replicate n (.int .u8 (b.toNat : Int)) := by simp [bcs]

/- ### Numbers -/
theorem shrI_nat (k : IntKind) (x s : Nat) (hs : s ≤ k.bits) : shrI k (x : Int) (s : Int) = ((x / 2 ^ s : Nat) : Int) := by
  unfold shrI
  rw [Int.toNat_natCast, Nat.min_eq_left hs, Int.fdiv_eq_ediv_of_nonneg _ (by
    have : (0 : Int) ≤ 2 ^ s := by exact Int.pow_nonneg (by omega)
    exact this)]
  simp
theorem wrap_u8_nat {n : Nat} (h : n < 256) : IntKind.u8.wrap (n : Int) = n := by rw [wrap_u8]; omega
theorem andI_u8 {a b : Nat} (ha : a < 256) (hb : b < 256) : andI .u8 (a : Int) (b : Int) = ((a &&& b : Nat) : Int) := by
  have hb8 : IntKind.u8.bits = 8 := rfl
  unfold andI
  rw [hb8]
  have e : (BitVec.ofInt 8 (a : Int) &&& BitVec.ofInt 8 (b : Int)).toNat = a &&& b := by
    rw [BitVec.ofInt_natCast, BitVec.ofInt_natCast, BitVec.toNat_and, BitVec.toNat_ofNat, BitVec.toNat_ofNat, Nat.mod_eq_of_lt (by omega), Nat.mod_eq_of_lt (by omega)]
  rw [e]
  exact wrap_u8_nat (Nat.lt_of_le_of_lt Nat.and_le_left ha)
theorem orI_u8 {a b : Nat} (ha : a < 256) (hb : b < 256) : orI .u8 (a : Int) (b : Int) = ((a ||| b : Nat) : Int) := by
  have hb8 : IntKind.u8.bits = 8 := rfl
  unfold orI
  rw [hb8]
  have e : (BitVec.ofInt 8 (a : Int) ||| BitVec.ofInt 8 (b : Int)).toNat = a ||| b := by
    rw [BitVec.ofInt_natCast, BitVec.ofInt_natCast, BitVec.toNat_or, BitVec.toNat_ofNat, BitVec.toNat_ofNat, Nat.mod_eq_of_lt (by omega), Nat.mod_eq_of_lt (by omega)]
  rw [e]
  exact wrap_u8_nat (Nat.or_lt_two_pow (n := 8) ha hb)
theorem xorI_u8 {a b : Nat} (ha : a < 256) (hb : b < 256) : xorI .u8 (a : Int) (b : Int) = ((a ^^^ b : Nat) : Int) := by
  have hb8 : IntKind.u8.bits = 8 := rfl
  unfold xorI
  rw [hb8]
  have e : (BitVec.ofInt 8 (a : Int) ^^^ BitVec.ofInt 8 (b : Int)).toNat = a ^^^ b := by
    rw [BitVec.ofInt_natCast, BitVec.ofInt_natCast, BitVec.toNat_xor, BitVec.toNat_ofNat, BitVec.toNat_ofNat, Nat.mod_eq_of_lt (by omega), Nat.mod_eq_of_lt (by omega)]
  rw [e]
  exact wrap_u8_nat (Nat.xor_lt_two_pow (n := 8) ha hb)
theorem u8_lt (b : UInt8) : b.toNat < 256 := b.toNat_lt
/-- A number that fits a byte is a byte's. -/
theorem byte_of {n : Nat} (h : n < 256) : (Value.int .u8 (n : Int)) = .int .u8 ((UInt8.ofNat n).toNat : Int) := by
  congr 2
  simp; omega

/- ### Two lists of cells, compared -/
theorem mapM_single {P : Program} {d : Nat} {e : TypeId} {k : IntKind} (he : P.underlying e = some (.int k)) : ∀ (xs : List Int) (cs : List Value) (i : Nat), (∀ x ∈ xs, (Lit.int k x).wf = true) → cs.drop i = xs.map (Value.int k) →
    ((List.range' i xs.length).mapM fun j => P.keyLits (d + 1) e ((cs.drop (j * 1)).take 1)) = some (xs.map fun n => [Lit.int k n])
  | [], cs, i, _, _ => by simp
  | x :: xs, cs, i, hw, h => by
    have hd : cs.drop (i + 1) = xs.map (Value.int k) := by
      have := congrArg List.tail h
      simpa using this
    have h1 : (cs.drop (i * 1)).take 1 = [Value.int k x] := by rw [Nat.mul_one, h]; rfl
    have ih := mapM_single (d := d) he xs cs (i + 1) (fun y hy => hw y (List.mem_cons_of_mem _ hy)) hd
    rw [List.length_cons, List.range'_succ, List.mapM_cons, ih, h1]
    have : P.keyLits (d + 1) e [Value.int k x] = some [Lit.int k x] := by
      unfold Program.keyLits
      rw [he]
      simp [hw x (List.mem_cons_self ..)]
    rw [this]
    rfl
theorem flat_single (xs : List Int) (k : IntKind) : (xs.map fun n => [Lit.int k n]).flatten = xs.map (Lit.int k) := by
  induction xs with
  | nil => rfl
  | cons x xs ih => simp [ih]
theorem keyLits_ints {P : Program} {d n : Nat} {t e : TypeId} {k : IntKind} (ht : P.underlying t = some (.array n e)) (he : P.underlying e = some (.int k)) (hc : P.cellsOf e = 1) (hct : P.cellsOf t = n) (xs : List Int) (hx : xs.length = n) (hw : ∀ x ∈ xs, (Lit.int k x).wf = true) :
    P.keyLits (d + 2) t (xs.map (Value.int k)) = some (xs.map (Lit.int k)) := by
  unfold Program.keyLits
  rw [ht]
  simp only [hc, hct, List.length_map, hx, if_true]
  have := mapM_single (d := d) he xs (xs.map (Value.int k)) 0 hw (by simp)
  rw [hx] at this
  rw [List.range_eq_range', this]
  simp only [Option.map_some, flat_single]
end
end Go.Vc
namespace Go.Vc
open Go
theorem zeroRow_uniform {sz : Nat} {z : Value} (hsz : 0 < sz) (n : Nat) : zeroRow (Array.replicate sz z) n = Array.replicate n z := by
  unfold zeroRow
  apply Array.ext
  · simp
  · intro i h1 h2
    have key : ∀ j, j < sz → (Array.replicate sz z)[j]! = z := fun j hj => by
      rw [getElem!_pos (Array.replicate sz z) j (by simpa using hj)]
      simp
    simp only [Array.getElem_map, Array.getElem_replicate, Array.size_replicate]
    exact key _ (Nat.mod_lt _ hsz)
/-- Memory made of zeros. -/
theorem St.make {h0 h : Heap} {F : List HP} {e : TypeId} {sz bytes : Nat} {zero : Array Value} {z : Value} {l c : Nat} {K : Nat → Heap → Prop} (hs : St h0 h F) (hzero : zero = Array.replicate sz z) (hsz : 0 < sz)
    (hlc : l ≤ c) (hc : c ≤ maxLen) (hb : bytes * c ≤ 281474976710656) (hk : ∀ b h', St h0 h' (own sz (some ⟨b, 0, none⟩) l c (List.replicate (l * sz) z) :: F) → K b h') : makeP e sz bytes zero (l : Int) (c : Int) h K := by
  subst hzero
  have hb' : ((bytes * c : Nat) : Int) ≤ 281474976710656 := by omega
  refine ⟨by omega, by omega, by omega, by rw [Int.natCast_mul] at hb'; exact hb', ?_⟩
  simp only [Int.toNat_natCast]
  have hcells : (if c * sz = 0 then (#[] : Array Value) else zeroRow (Array.replicate sz z) (c * sz)) = Array.replicate (c * sz) z := by
    split
    · rename_i h; rw [h]; rfl
    · exact zeroRow_uniform hsz _
  rw [hcells]
  refine hs.newBlk fun b h' _ s _ => hk b h' (s.impl fun m p => ⟨by simp, hlc, hc, .inr ⟨b, 0, List.replicate ((c - l) * sz) z, rfl, by simp, ?_⟩⟩)
  have hm := Nat.mul_le_mul_right sz hlc
  rw [List.replicate_append_replicate, ← Nat.add_mul]
  have : l + (c - l) = c := by omega
  rw [this]
  simpa using p
end Go.Vc
/- What came in with a call, read by the shape of its type. It speaks of no program. -/
set_option linter.unusedVariables false
namespace Go.Vc
open Go

/-- The shape of plain data. -/
inductive Shape where
  | int (k : IntKind) | bool | str | slice (s : Shape) | arr (n : Nat) (s : Shape) | nil | cons (s r : Shape)
def Shape.size : Shape → Nat
  | .arr n s => n * s.size
  | .nil => 0
  | .cons s r => s.size + r.size
  | _ => 1
/-- Cells of a shape, and what they lead to. -/
def Rdb (h : Heap) : Shape → List Value → Prop
  | .int k, cs => ∃ n, cs = [.int k n] ∧ (Lit.int k n).wf = true
  | .bool, cs => ∃ b, cs = [.bool b]
  | .str, cs => ∃ s, cs = [.string s] ∧ s.size ≤ maxLen
  | .slice s, cs => ∃ p l c, cs = [.slice p l c] ∧ l ≤ c ∧ c ≤ maxLen ∧ ∃ rows : List (List Value), rows.length = l ∧ Rd h s.size p l rows.flatten ∧ ∀ r ∈ rows, Rdb h s r
  | .arr n s, cs => ∃ rows : List (List Value), rows.length = n ∧ cs = rows.flatten ∧ ∀ r ∈ rows, Rdb h s r
  | .nil, cs => cs = []
  | .cons s r, cs => ∃ a b, cs = a ++ b ∧ Rdb h s a ∧ Rdb h r b
theorem flatten_length {n : Nat} : ∀ {rows : List (List Value)}, (∀ r ∈ rows, r.length = n) → rows.flatten.length = rows.length * n
  | [], _ => by simp
  | r :: rs, h => by
    rw [List.flatten_cons, List.length_append, flatten_length (fun x hx => h x (List.mem_cons_of_mem _ hx)), h r (List.mem_cons_self ..), List.length_cons, Nat.add_mul]
    omega
theorem Rdb.len {h : Heap} : ∀ {s : Shape} {cs : List Value}, Rdb h s cs → cs.length = s.size
  | .int k, cs, ⟨n, e, _⟩ => by rw [e]; rfl
  | .bool, cs, ⟨n, e⟩ => by rw [e]; rfl
  | .str, cs, ⟨n, e, _⟩ => by rw [e]; rfl
  | .slice s, cs, ⟨p, l, c, e, _⟩ => by rw [e]; rfl
  | .arr n s, cs, ⟨rows, e1, e2, e3⟩ => by rw [e2, flatten_length (fun r hr => Rdb.len (e3 r hr)), e1]; rfl
  | .nil, cs, e => by rw [show cs = [] from e]; rfl
  | .cons s r, cs, ⟨a, b, e, ha, hb⟩ => by rw [e, List.length_append, ha.len, hb.len]; rfl
def fieldsShape (f : TypeId → Option Shape) : Nat → List Field → Option Shape
  | _, [] => some .nil
  | off, x :: r => match Nat.beq x.offset off, f x.type with
    | true, some s => (match fieldsShape f (off + s.size) r with | some q => some (.cons s q) | none => none)
    | _, _ => none
def shapeOf (P : Program) : Nat → TypeId → Option Shape
  | 0, _ => none
  | d + 1, t =>
    let o : Option Shape := match P.underlying t with
      | some (.int k) => some (.int k)
      | some .bool => some .bool
      | some .string => some .str
      | some (.slice e) => (shapeOf P d e).map .slice
      | some (.array n e) => (shapeOf P d e).map (.arr n)
      | some (.struct fs) => fieldsShape (shapeOf P d) 0 fs.toList
      | _ => none
    match o with
    | some s => (match Nat.beq s.size (P.cellsOf t) with | true => some s | false => none)
    | none => none
theorem shapeOf_size {P : Program} : ∀ {d : Nat} {t : TypeId} {s : Shape}, shapeOf P d t = some s → P.cellsOf t = s.size
  | 0, _, _, e => by cases e
  | d + 1, t, s, e => by
    unfold shapeOf at e
    simp only at e
    split at e
    · split at e
      · rename_i hb
        cases e
        exact (Nat.eq_of_beq_eq_true hb).symm
      · cases e
    · cases e
theorem mapM_range {α β : Type} {f : Nat → Option β} : ∀ {n i : Nat} {ys : List β}, (List.range' i n).mapM f = some ys → ys.length = n ∧ ∀ j (hj : j < ys.length), f (i + j) = some ys[j]
  | 0, i, ys, h => by
    simp at h
    subst h
    exact ⟨rfl, fun j hj => by simp at hj⟩
  | n + 1, i, ys, h => by
    rw [List.range'_succ, List.mapM_cons] at h
    cases hf : f i with
    | none => simp [hf] at h
    | some y =>
      cases hr : (List.range' (i + 1) n).mapM f with
      | none => simp [hf, hr] at h
      | some zs =>
        simp [hf, hr] at h
        subst h
        obtain ⟨h1, h2⟩ := mapM_range (α := α) hr
        refine ⟨by simp [h1], fun j hj => ?_⟩
        cases j with
        | zero => simpa using hf
        | succ j =>
          have := h2 j (by simpa using hj)
          rw [show i + (j + 1) = i + 1 + j by omega]
          simpa using this
theorem cells_some {w : World} {base : Nat} {a : Addr} {n : Nat} {cs : List Value} (h : w.cells? base a n = some cs) : cs.length = n ∧ ∀ j (hj : j < cs.length), cell w.heap (a.add j) = some cs[j] := by
  unfold World.cells? at h
  split at h
  · rw [List.range_eq_range'] at h
    obtain ⟨h1, h2⟩ := mapM_range (α := Unit) h
    refine ⟨h1, fun j hj => ?_⟩
    have := h2 j hj
    rwa [Nat.zero_add] at this
  · cases h
theorem add_add (a : Addr) (i j : Nat) (hj : a.spot = none) : (a.add i).add j = a.add (i + j) := by
  obtain ⟨b, o, s⟩ := a
  simp only at hj
  subst hj
  rw [add_mk, add_mk, add_mk, Nat.add_assoc]
theorem flatten_get {n : Nat} {rows : List (List Value)} (hn : ∀ r ∈ rows, r.length = n) {j : Nat} (hj : j < rows.flatten.length) (hp : 0 < n) :
    ∃ (h1 : j / n < rows.length) (h2 : j % n < rows[j / n].length), rows.flatten[j] = (rows[j / n])[j % n] := by
  induction rows generalizing j with
  | nil => simp at hj
  | cons r rs ih =>
    have hr := hn r (List.mem_cons_self ..)
    by_cases hlt : j < n
    · have e1 : j / n = 0 := Nat.div_eq_of_lt hlt
      have e2 : j % n = j := Nat.mod_eq_of_lt hlt
      refine ⟨by rw [e1]; simp, by simp only [e1, e2, List.getElem_cons_zero]; omega, ?_⟩
      simp only [List.flatten_cons, e1, e2, List.getElem_cons_zero]
      rw [List.getElem_append_left]
    · have hl : (r ++ rs.flatten).length = r.length + rs.flatten.length := List.length_append
      rw [List.flatten_cons] at hj
      obtain ⟨h1, h2, h3⟩ := ih (fun x hx => hn x (List.mem_cons_of_mem _ hx)) (j := j - n) (by omega)
      have e1 : j / n = (j - n) / n + 1 := by
        rw [Nat.div_eq_sub_div hp (by omega)]
      have e2 : j % n = (j - n) % n := by rw [Nat.mod_eq_sub_mod (by omega)]
      refine ⟨by rw [e1]; simp; omega, by simp only [e1, e2, List.getElem_cons_succ]; exact h2, ?_⟩
      simp only [List.flatten_cons, e1, e2, List.getElem_cons_succ]
      rw [List.getElem_append_right (by omega)]
      simp only [hr]
      exact h3
section
variable {H : Type} {enc : TypeId × Value → H} {P : Program} {w : World} {base : Nat} {spare : Nat → Bool} {held : Bool}
theorem rdb_fields {d fuel : Nat} {f : TypeId → Option Shape} (hf : ∀ t s cs y, f t = some s → DataW.trod enc P w base spare held fuel t cs = some y → P.cellsOf t = s.size ∧ Rdb w.heap s cs) :
    ∀ (fs : List Field) (off : Nat) (s : Shape) (cs : List Value) (ys : List (DataW H × List MemPlace)), fieldsShape f off fs = some s → cs.length = off + s.size →
      (fs.mapM fun x => DataW.trod enc P w base spare held fuel x.type ((cs.drop x.offset).take (P.cellsOf x.type))) = some ys → Rdb w.heap s (cs.drop off)
  | [], off, s, cs, ys, hs, hl, h => by
    simp [fieldsShape] at hs
    subst hs
    have : cs.length = off := hl
    exact List.drop_of_length_le (by omega)
  | x :: r, off, s, cs, ys, hs, hl, h => by
    unfold fieldsShape at hs
    split at hs
    · rename_i q hb hx
      have hoff := Nat.eq_of_beq_eq_true hb
      split at hs
      · rename_i q' hq
        cases hs
        rw [List.mapM_cons] at h
        cases hy : DataW.trod enc P w base spare held fuel x.type ((cs.drop x.offset).take (P.cellsOf x.type)) with
        | none => simp [hy] at h
        | some y =>
          cases hr : r.mapM fun x => DataW.trod enc P w base spare held fuel x.type ((cs.drop x.offset).take (P.cellsOf x.type)) with
          | none => simp [hy, hr] at h
          | some zs =>
            obtain ⟨h1, h2⟩ := hf _ _ _ _ hx hy
            have hsz : (Shape.cons q q').size = q.size + q'.size := rfl
            have ih := rdb_fields (d := d) hf r (off + q.size) q' cs zs hq (by omega) hr
            refine ⟨(cs.drop off).take q.size, cs.drop (off + q.size), ?_, ?_, ih⟩
            · rw [← List.drop_drop, List.take_append_drop]
            · rw [hoff, h1] at h2; exact h2
      · cases hs
    · cases hs
theorem rdb_of : ∀ {d : Nat} {t : TypeId} {s : Shape}, shapeOf P d t = some s → ∀ {fuel : Nat} {cs : List Value} {y : DataW H × List MemPlace}, DataW.trod enc P w base spare held fuel t cs = some y → Rdb w.heap s cs
  | 0, _, _, e, _, _, _, _ => by cases e
  | d + 1, t, s, e, 0, cs, y, h => by cases h
  | d + 1, t, s, e, fuel + 1, cs, y, h => by
    have hsz := shapeOf_size e
    unfold shapeOf at e
    simp only at e
    split at e
    · rename_i s' hs'
      split at e
      · cases e
        rename_i hb
        unfold DataW.trod at h
        split at hs'
        · rename_i k hu
          cases hs'
          rw [hu] at h
          simp only at h
          split at h <;> rename_i heq
          all_goals first
            | (cases heq; done)
            | skip
          · cases heq
            split at h
            · rename_i hc
              obtain ⟨rfl, hw⟩ := hc
              exact ⟨_, rfl, hw⟩
            · cases h
          all_goals (first | (cases h; done) | skip)
        · rename_i hu
          cases hs'
          rw [hu] at h
          simp only at h
          split at h <;> rename_i heq
          all_goals first
            | (cases heq; done)
            | skip
          · exact ⟨_, rfl⟩
          all_goals (first | (cases h; done) | skip)
        · rename_i hu
          cases hs'
          rw [hu] at h
          simp only at h
          split at h <;> rename_i heq
          all_goals first
            | (cases heq; done)
            | skip
          · split at h
            · rename_i hc; exact ⟨_, rfl, hc⟩
            · cases h
          all_goals (first | (cases h; done) | skip)
        · rename_i e hu
          rw [hu] at h
          cases he : shapeOf P d e with
          | none => simp [he] at hs'
          | some q =>
            simp [he] at hs'
            subst hs'
            have hq := shapeOf_size he
            simp only at h
            split at h <;> rename_i heq
            all_goals first
              | (cases heq; done)
              | skip
            · cases h
              exact ⟨none, 0, 0, rfl, Nat.le_refl _, Nat.zero_le _, [], rfl, Rd.nil _ _, fun r hr => by cases hr⟩
            · rename_i e' a len cap
              cases heq
              split at h
              · rename_i hc
                obtain ⟨hc1, hc2, hc3⟩ := hc
                obtain ⟨els, hels, h⟩ := Option.bind_eq_some_iff.1 h
                rw [List.range_eq_range'] at hels
                obtain ⟨g1, g2⟩ := mapM_range (α := Unit) hels
                have hrow : ∀ j, j < len → ∃ cs, w.cells? base (a.add (j * P.cellsOf e)) (P.cellsOf e) = some cs ∧ Rdb w.heap q cs := fun j hj => by
                  have := g2 j (by omega)
                  rw [Nat.zero_add] at this
                  obtain ⟨cs, k1, k2⟩ := Option.bind_eq_some_iff.1 this
                  exact ⟨cs, k1, rdb_of he k2⟩
                refine ⟨some a, len, cap, rfl, hc2, hc3, ?_⟩
                have hall : ∀ n, n ≤ len → ∃ rows : List (List Value), rows.length = n ∧ ∀ j (hj : j < rows.length), w.cells? base (a.add (j * P.cellsOf e)) (P.cellsOf e) = some rows[j] ∧ Rdb w.heap q rows[j] := by
                  intro n
                  induction n with
                  | zero => intro _; exact ⟨[], rfl, fun j hj => by simp at hj⟩
                  | succ n ih =>
                    intro hn
                    obtain ⟨rows, r1, r2⟩ := ih (by omega)
                    obtain ⟨cs, k1, k2⟩ := hrow n (by omega)
                    refine ⟨rows ++ [cs], by simp [r1], fun j hj => ?_⟩
                    by_cases hjn : j < rows.length
                    · rw [List.getElem_append_left hjn]; exact r2 j hjn
                    · have : j = n := by simp at hj; omega
                      subst this
                      rw [List.getElem_append_right (by omega)]
                      simp only [r1, Nat.sub_self, List.getElem_cons_zero]
                      exact ⟨k1, k2⟩
                obtain ⟨rows, r1, r2⟩ := hall len (Nat.le_refl _)
                have hrdb : ∀ r ∈ rows, Rdb w.heap q r := fun r hr => by
                  obtain ⟨j, hj, rfl⟩ := List.mem_iff_getElem.1 hr
                  exact (r2 j hj).2
                refine ⟨rows, r1, ?_, hrdb⟩
                have hfl := flatten_length (n := q.size) (rows := rows) fun r hr => (hrdb r hr).len
                refine ⟨by rw [hfl, r1], ?_⟩
                simp only [src]
                by_cases hz : len * q.size = 0
                · rw [hz]
                  have : rows.flatten = [] := List.eq_nil_of_length_eq_zero (by rw [hfl, r1]; exact hz)
                  rw [this]; rfl
                · have hq0 : 0 < q.size := Nat.pos_of_ne_zero fun e0 => hz (by rw [e0, Nat.mul_zero])
                  have hl0 : 0 < len := Nat.pos_of_ne_zero fun e0 => hz (by rw [e0, Nat.zero_mul])
                  have hsp : a.spot = none := by
                    obtain ⟨c1, c2⟩ := cells_some (r2 0 (by omega)).1
                    have := c2 0 (by omega)
                    rw [Nat.zero_mul] at this
                    have e0 : (a.add 0).add 0 = a := by simp [Addr.add]
                    rw [e0] at this
                    unfold cell at this
                    split at this
                    · split at this
                      · cases this
                      · rename_i hn; simpa using hn
                    · cases this
                  have := row_of (h := w.heap) (a := a) rows.flatten fun j hj => by
                    obtain ⟨f1, f2, f3⟩ := flatten_get (fun r hr => (hrdb r hr).len) hj hq0
                    rw [f3]
                    obtain ⟨c1, c2⟩ := cells_some (r2 (j / q.size) f1).1
                    have := c2 (j % q.size) f2
                    rw [hq, add_add _ _ _ hsp, Nat.div_add_mod' j q.size] at this
                    exact this
                  rw [hfl, r1] at this
                  exact this
              · cases h
            all_goals (first | (cases h; done) | skip)
        · rename_i n e hu
          rw [hu] at h
          cases he : shapeOf P d e with
          | none => simp [he] at hs'
          | some q =>
            simp [he] at hs'
            subst hs'
            have hq := shapeOf_size he
            simp only at h
            · split at h
              · rename_i hl
                obtain ⟨els, hels, h⟩ := Option.map_eq_some_iff.1 h
                rw [List.range_eq_range'] at hels
                obtain ⟨g1, g2⟩ := mapM_range (α := Unit) hels
                refine ⟨(List.range n).map fun j => (cs.drop (j * q.size)).take q.size, by simp, ?_, ?_⟩
                · have hln : cs.length = n * q.size := by rw [hl, hsz]; rfl
                  have key : ∀ (m i : Nat), i + m = n → cs.drop (i * q.size) = ((List.range' i m).map fun j => (cs.drop (j * q.size)).take q.size).flatten := by
                    intro m
                    induction m with
                    | zero => intro i hi; simp at hi ⊢; subst hi; omega
                    | succ m ih =>
                      intro i hi
                      rw [List.range'_succ, List.map_cons, List.flatten_cons, ← ih (i + 1) (by omega)]
                      rw [show (i + 1) * q.size = i * q.size + q.size by rw [Nat.add_mul, Nat.one_mul], ← List.drop_drop, List.take_append_drop]
                  have := key n 0 (by omega)
                  rw [Nat.zero_mul, List.drop_zero] at this
                  rw [List.range_eq_range', ← this]
                · intro r hr
                  obtain ⟨j, hj, rfl⟩ := List.mem_map.1 hr
                  rw [List.mem_range] at hj
                  have := g2 j (by omega)
                  rw [Nat.zero_add, hq] at this
                  exact rdb_of he this
              · cases h
        · rename_i fs hu
          rw [hu] at h
          simp only at h
          · split at h
            · rename_i hl
              obtain ⟨els, hels, h⟩ := Option.map_eq_some_iff.1 h
              have := rdb_fields (d := d) (f := shapeOf P d) (fun t s cs y h1 h2 => ⟨shapeOf_size h1, rdb_of h1 h2⟩) fs.toList 0 s cs els hs' (by rw [hl, hsz, Nat.zero_add]) hels
              simpa using this
            · cases h
        · cases hs'
      · cases e
    · cases e
theorem rdb_Trod {d : Nat} {t : TypeId} {s : Shape} (hs : shapeOf P d t = some s) {v : Value} {x : DataW H} {ps : List MemPlace} (h : DataW.Trod enc P w base spare held t v x ps) : Rdb w.heap s v.cells.toList := by
  obtain ⟨fuel, hf⟩ := h
  exact rdb_of hs hf
end

/- ### Shapes, laid open -/
theorem Rdb.u8s {h : Heap} : ∀ {rows : List (List Value)}, (∀ r ∈ rows, Rdb h (.int .u8) r) → ∃ bs : List UInt8, bs.length = rows.length ∧ rows.flatten = bcs bs
  | [], _ => ⟨[], rfl, rfl⟩
  | r :: rs, hr => by
    obtain ⟨bs, h1, h2⟩ := Rdb.u8s fun x hx => hr x (List.mem_cons_of_mem _ hx)
    obtain ⟨n, e, hw⟩ := hr r (List.mem_cons_self ..)
    have hb : 0 ≤ n ∧ n < 256 := by
      simp [Lit.wf, IntKind.min, IntKind.max, IntKind.bits, IntKind.signed] at hw
      omega
    refine ⟨UInt8.ofNat n.toNat :: bs, by simp [h1], ?_⟩
    rw [List.flatten_cons, h2, e]
    have : (UInt8.ofNat n.toNat).toNat = n.toNat := by rw [UInt8.toNat_ofNat']; omega
    simp only [bcs, List.map_cons, this]
    rw [show ((n.toNat : Nat) : Int) = n by omega]
    rfl
/-- Bytes that came in. -/
theorem Rdb.bytes {h : Heap} {cs : List Value} (r : Rdb h (.slice (.int .u8)) cs) : ∃ p l c bs, cs = [.slice p l c] ∧ l ≤ c ∧ c ≤ maxLen ∧ Bs h p l bs := by
  obtain ⟨p, l, c, e, h1, h2, rows, h3, h4, h5⟩ := r
  obtain ⟨bs, g1, g2⟩ := Rdb.u8s h5
  refine ⟨p, l, c, bs, e, h1, h2, by rw [g1, h3], ?_⟩
  rw [g2] at h4
  exact h4
theorem Rdb.byteArr {h : Heap} {n : Nat} {cs : List Value} (r : Rdb h (.arr n (.int .u8)) cs) : ∃ bs : List UInt8, bs.length = n ∧ cs = bcs bs := by
  obtain ⟨rows, h1, h2, h3⟩ := r
  obtain ⟨bs, g1, g2⟩ := Rdb.u8s h3
  exact ⟨bs, by rw [g1, h1], by rw [h2, g2]⟩
end Go.Vc
namespace Go.Vc
open Go
/-- An argument, by its shape. -/
def ArgR (h : Heap) (s : Shape) (v : Value) : Prop :=
  match s with
  | .arr _ _ => ∃ cs, v = .agg cs ∧ Rdb h s cs.toList
  | .cons _ _ => ∃ cs, v = .agg cs ∧ Rdb h s cs.toList
  | .nil => ∃ cs, v = .agg cs ∧ Rdb h s cs.toList
  | s => Rdb h s [v]
theorem fieldsShape_agg {f : TypeId → Option Shape} : ∀ {fs : List Field} {off : Nat} {s : Shape}, fieldsShape f off fs = some s → s = .nil ∨ ∃ a b, s = .cons a b
  | [], _, s, e => by simp [fieldsShape] at e; exact .inl e.symm
  | x :: r, off, s, e => by
    unfold fieldsShape at e
    split at e
    · split at e
      · cases e; exact .inr ⟨_, _, rfl⟩
      · cases e
    · cases e
theorem arg_of {H : Type} {enc : TypeId × Value → H} {P : Program} {w : World} {base b0 : Nat} {spare : Nat → Bool} {held : Bool} {r : Reach} {d : Nat} {t : TypeId} {s : Shape} {v : Value} {x : DataW H} {ps : List MemPlace}
    (hs : shapeOf P d t = some s) (hv : Value.okWide P w r b0 t v) (h : DataW.Trod enc P w base spare held t v x ps) : ArgR w.heap s v := by
  have hr := rdb_Trod hs h
  cases d with
  | zero => cases hs
  | succ d =>
    unfold shapeOf at hs
    simp only at hs
    split at hs
    · rename_i s' hs'
      split at hs
      · cases hs
        unfold Value.okWide at hv
        have one : (∀ cs, v ≠ .agg cs) → v.cells.toList = [v] := fun hn => by
          cases v <;> first | rfl | exact (hn _ rfl).elim
        split at hs'
        · rename_i k hu
          rw [hu] at hv
          simp only [Cell.okWide, hu] at hv
          cases hs'
          rw [one fun cs e => by subst e; simp [Cell.ok, hu] at hv] at hr
          exact hr
        · rename_i hu
          rw [hu] at hv
          simp only [Cell.okWide, hu] at hv
          cases hs'
          rw [one fun cs e => by subst e; simp [Cell.ok, hu] at hv] at hr
          exact hr
        · rename_i hu
          rw [hu] at hv
          simp only [Cell.okWide, hu] at hv
          cases hs'
          rw [one fun cs e => by subst e; simp [Cell.ok, hu] at hv] at hr
          exact hr
        · rename_i e hu
          rw [hu] at hv
          simp only [Cell.okWide, hu] at hv
          cases he : shapeOf P d e with
          | none => simp [he] at hs'
          | some q =>
            simp [he] at hs'
            subst hs'
            rw [one fun cs e => by subst e; simp [Cell.ok, hu] at hv] at hr
            exact hr
        · rename_i n e hu
          rw [hu] at hv
          simp only at hv
          obtain ⟨cs, rfl, _⟩ := hv
          cases he : shapeOf P d e with
          | none => simp [he] at hs'
          | some q =>
            simp [he] at hs'
            subst hs'
            exact ⟨cs, rfl, hr⟩
        · rename_i fs hu
          rw [hu] at hv
          simp only at hv
          obtain ⟨cs, rfl, _⟩ := hv
          rcases fieldsShape_agg hs' with rfl | ⟨a, b, rfl⟩
          · exact ⟨cs, rfl, hr⟩
          · exact ⟨cs, rfl, hr⟩
        · cases hs'
      · cases hs
    · cases hs
theorem int_arg {h : Heap} {k : IntKind} {v : Value} (a : ArgR h (.int k) v) : ∃ n, v = .int k n ∧ (Lit.int k n).wf = true := by
  obtain ⟨n, e, hw⟩ := a
  exact ⟨n, by simpa using e, hw⟩
theorem bytes_arg {h : Heap} {v : Value} (a : ArgR h (.slice (.int .u8)) v) : ∃ p l c bs, v = .slice p l c ∧ l ≤ c ∧ c ≤ maxLen ∧ Bs h p l bs := by
  obtain ⟨p, l, c, bs, e, h1, h2, h3⟩ := Rdb.bytes a
  exact ⟨p, l, c, bs, by simpa using e, h1, h2, h3⟩
theorem wf_u {k : IntKind} {n : Int} (hk : k.signed = false) (h : (Lit.int k n).wf = true) : 0 ≤ n ∧ n < 2 ^ k.bits := by
  simp [Lit.wf, IntKind.min, IntKind.max, hk] at h
  omega
theorem wf_i64 {n : Int} (h : (Lit.int .i64 n).wf = true) : -9223372036854775808 ≤ n ∧ n ≤ 9223372036854775807 := by
  simp [Lit.wf, IntKind.min, IntKind.max, IntKind.bits, IntKind.signed] at h
  omega
end Go.Vc
/- Parts of memory, third part: rows of rows. It speaks of no program. -/
set_option linter.unusedVariables false
namespace Go.Vc
open Go
theorem spot_none {h : Heap} {a : Addr} {v : Value} (hc : cell h a = some v) : a.spot = none := by
  unfold cell at hc
  split at hc
  · split at hc
    · cases hc
    · rename_i hn; simpa using hn
  · cases hc
/-- The cells of a row of rows. -/
theorem rows_get {h : Heap} {p : Option Addr} {n sz : Nat} {rows : List (List Value)} (hr : Rd h sz p n rows.flatten) (hn : rows.length = n) (hsz : ∀ r ∈ rows, r.length = sz) (hz : 0 < sz) {i : Nat} (hi : i < n) :
    ∃ b o, p = some (Addr.mk b o none) ∧ ∀ j (hj : j < sz) (h1 : i < rows.length) (h2 : j < rows[i].length), cell h (Addr.mk b (o + i * sz + j) none) = some rows[i][j] := by
  have hl : rows.flatten.length = n * sz := hr.1
  have hpos : 0 < rows.flatten.length := by
    rw [hl]
    exact Nat.mul_pos (by omega) hz
  obtain ⟨a, rfl, h0⟩ := hr.cell hpos
  have hsp : a.spot = none := by
    have := spot_none h0
    simpa [Addr.add] using this
  obtain ⟨b, o, sp⟩ := a
  simp only at hsp
  subst hsp
  refine ⟨b, o, rfl, fun j hj h1 h2 => ?_⟩
  have hlt : i * sz + j < rows.flatten.length := by
    rw [hl]
    have := Nat.mul_le_mul_right sz (show i + 1 ≤ n by omega)
    rw [Nat.add_mul] at this
    omega
  obtain ⟨a', e, hc⟩ := hr.cell hlt
  cases e
  obtain ⟨f1, f2, f3⟩ := flatten_get hsz hlt hz
  rw [f3, add_mk, ← Nat.add_assoc] at hc
  have ei : (i * sz + j) / sz = i := by rw [Nat.mul_comm, Nat.mul_add_div hz, Nat.div_eq_of_lt hj]; omega
  have ej : (i * sz + j) % sz = j := by rw [Nat.mul_comm, Nat.mul_add_mod, Nat.mod_eq_of_lt hj]
  simp only [ei, ej] at hc
  exact hc

/-- Rows put in the place of rows. -/
theorem flatten_take {sz : Nat} : ∀ {rows : List (List Value)} {i : Nat}, (∀ r ∈ rows, r.length = sz) → i ≤ rows.length → rows.flatten.take (i * sz) = (rows.take i).flatten
  | _, 0, _, _ => by simp
  | [], i + 1, _, h => by simp at h
  | r :: rs, i + 1, hr, h => by
    have h0 := hr r (List.mem_cons_self ..)
    rw [List.flatten_cons, List.take_succ_cons, List.flatten_cons, Nat.add_mul, Nat.one_mul, Nat.add_comm, ← h0, List.take_length_add_append, h0, flatten_take (fun x hx => hr x (List.mem_cons_of_mem _ hx)) (by simpa using h)]
theorem flatten_drop {sz : Nat} : ∀ {rows : List (List Value)} {i : Nat}, (∀ r ∈ rows, r.length = sz) → i ≤ rows.length → rows.flatten.drop (i * sz) = (rows.drop i).flatten
  | _, 0, _, _ => by simp
  | [], i + 1, _, h => by simp at h
  | r :: rs, i + 1, hr, h => by
    have h0 := hr r (List.mem_cons_self ..)
    rw [List.flatten_cons, List.drop_succ_cons, Nat.add_mul, Nat.one_mul, Nat.add_comm, ← h0, List.drop_length_add_append, h0, flatten_drop (fun x hx => hr x (List.mem_cons_of_mem _ hx)) (by simpa using h)]
/-- A part of one row changed. -/
theorem lay_rows {sz i x : Nat} {rows : List (List Value)} {l : List Value} (hr : ∀ r ∈ rows, r.length = sz) (hi : i < rows.length) (hl : x + l.length ≤ sz) : lay rows.flatten (i * sz + x) l = (rows.set i (lay rows[i] x l)).flatten := by
  have hri := hr _ (List.getElem_mem hi)
  have hsplit : rows.flatten = (rows.take i).flatten ++ (rows[i] ++ (rows.drop (i + 1)).flatten) := by
    rw [← List.flatten_cons, ← List.drop_eq_getElem_cons hi, ← List.flatten_append, List.take_append_drop]
  have hlen : ((rows.take i).flatten).length = i * sz := by
    rw [flatten_length (n := sz) (fun r h => hr r (List.mem_of_mem_take h)), List.length_take]
    congr 1; omega
  have hset : rows.set i (lay rows[i] x l) = rows.take i ++ (lay rows[i] x l :: rows.drop (i + 1)) := by
    rw [List.set_eq_take_append_cons_drop, if_pos hi]
  rw [hset, List.flatten_append, List.flatten_cons, hsplit]
  unfold lay
  rw [← hlen, List.take_length_add_append, List.take_append_of_le_length (by omega), Nat.add_assoc, List.drop_length_add_append, List.drop_append_of_le_length (by omega)]
  simp only [List.append_assoc]
section
variable {h0 h : Heap} {F : List HP} {sz : Nat} {p : Option Addr} {l c : Nat} {rows : List (List Value)}
theorem rows_count {sz n : Nat} {rows : List (List Value)} (hr : ∀ r ∈ rows, r.length = sz) (hz : 0 < sz) (h : rows.flatten.length = n * sz) : rows.length = n := by
  rw [flatten_length hr] at h
  exact Nat.eq_of_mul_eq_mul_right hz h
theorem St.rowGet (hs : St h0 h (own sz p l c rows.flatten :: F)) (hr : ∀ r ∈ rows, r.length = sz) (hz : 0 < sz) {i : Nat} (hi : i < rows.length) :
    ∃ b o, p = some (Addr.mk b o none) ∧ Vc.row h (Addr.mk b (o + i * sz) none) sz = some rows[i].toArray ∧ ∀ j v, rows[i][j]? = some v → Vc.cell h (Addr.mk b (o + i * sz + j) none) = some v := by
  have hl := rows_count hr hz hs.len.1
  obtain ⟨b, o, e, hc⟩ := rows_get (rd_own hs.at) hl hr hz (i := i) (by omega)
  have hri := hr _ (List.getElem_mem hi)
  refine ⟨b, o, e, ?_, fun j v hv => ?_⟩
  · have := row_of (h := h) (a := Addr.mk b (o + i * sz) none) rows[i] fun j hj => by
      rw [add_mk]
      exact hc j (by omega) hi hj
    rwa [hri] at this
  · obtain ⟨h1, h2⟩ := List.getElem?_eq_some_iff.1 hv
    rw [← h2]
    exact hc j (by omega) hi h1
theorem own_pts {vs : List Value} {b o : Nat} (hs : St h0 h (own sz (some (Addr.mk b o none)) l c vs :: F)) : ∃ rest, rest.length = (c - l) * sz ∧ St h0 h (pts b o false (vs ++ rest) :: F) := by
  obtain ⟨e, m, ⟨m1, m2, a, b', cc, ⟨_, _, _, d⟩, s⟩, t, u⟩ := hs
  rcases d with ⟨h1, _⟩ | ⟨x, y, rest, h1, h2, h3⟩
  · cases h1
  · cases h1
    exact ⟨rest, h2, e, m, ⟨m1, m2, a, b', cc, h3, s⟩, t, u⟩
theorem pts_own {vs rest : List Value} {b o : Nat} (hl : vs.length = l * sz) (hlc : l ≤ c) (hc : c ≤ maxLen) (hr : rest.length = (c - l) * sz) (hs : St h0 h (pts b o false (vs ++ rest) :: F)) : St h0 h (own sz (some (Addr.mk b o none)) l c vs :: F) :=
  hs.impl fun m q => ⟨hl, hlc, hc, .inr ⟨b, o, rest, rfl, hr, q⟩⟩
theorem lay_append {vs rest l : List Value} {i : Nat} (h : i + l.length ≤ vs.length) : lay (vs ++ rest) i l = lay vs i l ++ rest := by
  unfold lay
  rw [List.take_append_of_le_length (by omega), List.drop_append_of_le_length (by omega)]
  simp
/-- A run of cells stored into what is ours. -/
theorem St.ownStore {vs : List Value} {b o x n : Nat} {cs : Array Value} {K : Heap → Prop} (hs : St h0 h (own sz (some (Addr.mk b o none)) l c vs :: F)) (hn : cs.size = n) (hx : x + n ≤ l * sz) (ho : one cs)
    (hk : ∀ h', St h0 h' (own sz (some (Addr.mk b o none)) l c (lay vs x cs.toList) :: F) → K h') : Vc.storeP (some n) h (Addr.mk b (o + x) none) (.agg cs) K := by
  obtain ⟨h1, h2, h3⟩ := hs.len
  obtain ⟨rest, hr, s⟩ := own_pts hs
  have hcs : (Value.agg cs).cells = cs := rfl
  refine s.storeRow (v := .agg cs) (by rw [hcs]; exact hn) (by simp; omega) (by rw [hcs]; exact ho) fun h' s => hk h' ?_
  rw [hcs, lay_append (by simp [hn]; omega)] at s
  exact pts_own (by rw [lay_length (by simp [hn]; omega)]; exact h1) h2 h3 hr s
/-- One cell stored into what is ours. -/
theorem St.ownStore1 {vs : List Value} {b o x : Nat} {v : Value} {K : Heap → Prop} (hs : St h0 h (own sz (some (Addr.mk b o none)) l c vs :: F)) (hx : x < l * sz) (hv : v.oneCell' = true)
    (hk : ∀ h', St h0 h' (own sz (some (Addr.mk b o none)) l c (vs.set x v) :: F) → K h') : Vc.storeP none h (Addr.mk b (o + x) none) v K := by
  obtain ⟨h1, h2, h3⟩ := hs.len
  obtain ⟨rest, hr, s⟩ := own_pts hs
  refine s.storeP (by simp; omega) hv fun h' s => hk h' ?_
  rw [List.set_append_left _ _ (by omega)] at s
  exact pts_own (by simpa using h1) h2 h3 hr s
/-- copy, into what is ours. -/
theorem St.ownCopy {vs : List Value} {b o x sz' m n k : Nat} {q : Option Addr} {news : List Value} {K : Int → Heap → Prop} (hs : St h0 h (own sz (some (Addr.mk b o none)) l c vs :: F)) (hk0 : Nat.min n m * sz' = k) (hx : x + k ≤ l * sz)
    (hsrc : src h q k = some news.toArray) (hn : news.length = k) (ho : ∀ v ∈ news, v.oneCell' = true) (hk : ∀ h', St h0 h' (own sz (some (Addr.mk b o none)) l c (lay vs x news) :: F) → K (Nat.min n m : Nat) h') :
    copyP sz' (some (Addr.mk b (o + x) none)) m q n h K := by
  obtain ⟨h1, h2, h3⟩ := hs.len
  obtain ⟨rest, hr, s⟩ := own_pts hs
  obtain ⟨s2, w⟩ := St.putRow news (vs ++ rest) h 0 x s (by simp; omega)
  refine ⟨news.toArray, by rw [hk0]; exact hsrc, by simpa [one] using ho, fun a ha j hj => ?_, fun h' e => ?_⟩
  · cases ha
    rw [add_mk]
    exact w j (Nat.zero_le _) (by omega)
  · simp only at e
    subst e
    refine hk _ ?_
    rw [Nat.add_zero, lay_append (by omega)] at s2
    exact pts_own (by rw [lay_length (by omega)]; exact h1) h2 h3 hr s2
/-- The same, over the cells of a block. -/
theorem St.ptsCopy {vs : List Value} {b x sz' m n k : Nat} {q : Option Addr} {news : List Value} {K : Int → Heap → Prop} (hs : St h0 h (pts b 0 false vs :: F)) (hk0 : Nat.min n m * sz' = k) (hx : x + k ≤ vs.length)
    (hsrc : src h q k = some news.toArray) (hn : news.length = k) (ho : ∀ v ∈ news, v.oneCell' = true) (hk : ∀ h', St h0 h' (pts b 0 false (lay vs x news) :: F) → K (Nat.min n m : Nat) h') :
    copyP sz' (some (Addr.mk b x none)) m q n h K := by
  obtain ⟨s2, w⟩ := St.putRow (o := 0) news vs h 0 x hs (by omega)
  refine ⟨news.toArray, by rw [hk0]; exact hsrc, by simpa [one] using ho, fun a ha j hj => ?_, fun h' e => ?_⟩
  · cases ha
    rw [add_mk]
    have := w j (Nat.zero_le _) (by omega)
    rwa [Nat.zero_add] at this
  · simp only at e
    subst e
    refine hk _ ?_
    rw [Nat.add_zero, Nat.zero_add] at s2
    exact s2
end
end Go.Vc
/- Lists of bytes that are read alone: what slices of slices lead to. -/
set_option linter.unusedVariables false
namespace Go.Vc
open Go
abbrev Sl := Option Addr × Nat × Nat
def Sl.v (s : Sl) : Value := .slice s.1 s.2.1 s.2.2
/-- Slices, each with the bytes it leads to. -/
def rds (S : List (Sl × List UInt8)) : HP := fun m => ∀ e ∈ S, e.1.2.1 ≤ e.1.2.2 ∧ rdo 1 e.1.1 e.1.2.1 (bcs e.2) m
theorem rdo_le {sz : Nat} {p : Option Addr} {l : Nat} {vs : List Value} {m n : Res} (q : rdo sz p l vs m) (a : rle m n) : rdo sz p l vs n := ⟨q.1, q.2.imp id fun ⟨b, o, e, p⟩ => ⟨b, o, e, fun i v h => a _ _ _ (p i v h)⟩⟩
section
variable {h0 h : Heap} {F : List HP} {S T : List (Sl × List UInt8)}
theorem St.rdsNil (hs : St h0 h F) : St h0 h (rds [] :: F) := hs.add fun m e he => by cases he
theorem St.rdsSub (hs : St h0 h (rds S :: F)) (t : ∀ e ∈ T, e ∈ S) : St h0 h (rds T :: F) := hs.impl fun m q e he => q e (t e he)
theorem St.rdsOf {p : Option Addr} {l c : Nat} {xs : List UInt8} (hs : St h0 h (rdo 1 p l (bcs xs) :: F)) (hc : l ≤ c) : St h0 h (rds [((p, l, c), xs)] :: F) := hs.impl fun m q e he => by
  simp only [List.mem_singleton] at he
  subst he
  exact ⟨hc, q⟩
theorem St.rdsOwn {p : Option Addr} {l c : Nat} {xs : List UInt8} (hs : St h0 h (own 1 p l c (bcs xs) :: F)) : St h0 h (rds [((p, l, c), xs)] :: F) := St.rdsOf hs.ro hs.len.2.1
theorem St.rdsJoin (hs : St h0 h (rds S :: rds T :: F)) : St h0 h (rds (S ++ T) :: F) := hs.conseq fun m ⟨m1, m2, a1, a2, c, q, m3, m4, b1, b2, d, r, s⟩ =>
  ⟨radd m1 m3, m4, radd_le a1 (b1.trans a2), b2.trans a2, ((c.le (rle.refl _) b2).symm.add d.symm).symm, fun e he => by
    rcases List.mem_append.1 he with h | h
    · exact ⟨(q e h).1, rdo_le (q e h).2 (rle_left _ _)⟩
    · exact ⟨(r e h).1, rdo_le (r e h).2 (rle_right (c.le (rle.refl _) b1))⟩, s⟩
theorem rds_get (a : At h (rds S)) {e : Sl × List UInt8} (he : e ∈ S) : Bs h e.1.1 e.1.2.1 e.2 := bs_rdo (a.impl fun m q => (q e he).2)
theorem rds_cap (a : At h (rds S)) {e : Sl × List UInt8} (he : e ∈ S) : e.1.2.1 ≤ e.1.2.2 := by
  obtain ⟨m, _, q⟩ := a
  exact (q e he).1
theorem dup_rds : Dup (rds S) := dup_of fun _ q e he => ⟨(q e he).1, rdo_tops (q e he).2⟩
theorem St.rdsTake (hs : St h0 h (rds S :: F)) {e : Sl × List UInt8} (he : e ∈ S) : St h0 h (rdo 1 e.1.1 e.1.2.1 (bcs e.2) :: rds S :: F) := (hs.dup dup_rds).impl fun m q => (q e he).2
end
end Go.Vc
/- Bytes made of a text: a new block, marked. -/
set_option linter.unusedVariables false
namespace Go.Vc
open Go
theorem markH_push {h : Heap} {t : TypeId} {cs : Array Value} : markH (h.push (.cells cs t)) (Addr.mk h.size 0 none) = h.push (.cells cs t (cs.size, cs.size + 1)) := by
  unfold markH
  simp only [Array.getElem?_push_size]
  apply Array.ext
  · simp
  · intro i h1 h2
    simp only [Array.size_push] at h2
    by_cases hi : i = h.size
    · subst hi
      simp [Array.getElem_modify]
    · have : i < h.size := by omega
      simp [Array.getElem_modify, Array.getElem_push, this, Ne.symm hi]
theorem St.newMark {h0 h : Heap} {F : List HP} {t : TypeId} {cs : Array Value} {K : Nat → Heap → Prop} (hs : St h0 h F) (hk : ∀ b h', St h0 h' (pts b 0 false cs.toList :: F) → Ext h h' → K b h') :
    Vc.newBlk h t cs fun b h5 => (∃ (b6 : TypeId) (b7 : Nat), (match h5[b]? with | some (Obj.cells c' t' frozen) => some (t', c'.size) | x => none) = some (b6, b7)) ∧ ∀ h8, h8 = markH h5 (Addr.mk b 0 none) → K b h8 := by
  intro b h' e1 e2
  subst e1; subst e2
  refine ⟨⟨t, cs.size, by simp⟩, fun h8 e => ?_⟩
  rw [markH_push] at e
  subst e
  refine hk _ _ ?_ (Ext.push h _)
  refine hs.join (l' := [pts h.size 0 false cs.toList]) ⟨Ext.push h _, fun b o => if b = h.size then (cs[o]?).map (·, false) else none, ?_, ?_, ?_⟩
  · exact ⟨_, fun _ _ => none, rle.refl _, fun _ _ _ h => by simp at h, fun _ _ _ _ _ h => by simp at h, fun i v e => by simp at e; simp [e], trivial⟩
  · intro b o v r e
    simp only at e
    split at e
    · rename_i hb; subst hb
      cases hc : cs[o]? with
      | none => simp [hc] at e
      | some w =>
        have ho := (Array.getElem?_eq_some_iff.1 hc).1
        simp [hc] at e
        obtain ⟨rfl, rfl⟩ := e
        exact ⟨by simp [Vc.cell, hc], fun _ => by simp [Vc.frz]; omega⟩
    · cases e
  · intro b o x e
    simp only at e
    split at e
    · omega
    · cases e
theorem New.under {h0 h h' : Heap} {l : List HP} (e : Ext h0 h) (n : New h h' l) : New h0 h' l := by
  obtain ⟨e', m, s, a, b⟩ := n
  exact ⟨e.trans e', m, s, a, fun x o y hx => Nat.le_trans e.size (b x o y hx)⟩
end Go.Vc
/- From a call over heaps to the row's own walk. -/
namespace Go.Vc
open Go
open Go.RowKit

/-- True, and nothing that was there has changed. -/
theorem below_of {P : Program} {f : FuncId} {args : Array Value} {w : World} (hh : CallsH P f args w.heap fun v h' => v = .bool true ∧ Ext w.heap h') :
    Calls P f args w fun e w' => e = .returned (.bool true) ∧ Below w.heap.size w w' :=
  (hh w rfl).mono fun e w' ⟨v, he, hr, hv, hx⟩ => ⟨by rw [he, hv], ⟨hr.2.1, hr.1, hr.2.2, hx.size, hx⟩⟩
end Go.Vc
/- Lists of bytes that came in, and lists of bytes that are ours. It speaks of no program. -/
set_option linter.unusedVariables false
namespace Go.Vc
open Go
/-- Lists of bytes that came in. -/
def Bls (h : Heap) (p : Option Addr) (n : Nat) (S : List (Sl × List UInt8)) : Prop := S.length = n ∧ Rd h 1 p n (S.map (·.1.v)) ∧ ∀ e ∈ S, e.1.2.1 ≤ e.1.2.2 ∧ Bs h e.1.1 e.1.2.1 e.2
theorem Bls.ext {h h' : Heap} {p : Option Addr} {n : Nat} {S : List (Sl × List UInt8)} (r : Bls h p n S) (e : Ext h h') : Bls h' p n S := ⟨r.1, r.2.1.ext e, fun x hx => ⟨(r.2.2 x hx).1, (r.2.2 x hx).2.ext e⟩⟩
theorem Bls.get {h : Heap} {p : Option Addr} {n : Nat} {S : List (Sl × List UInt8)} (r : Bls h p n S) {i : Nat} (hi : i < S.length) : ∃ a, p = some a ∧ cell h (a.add i) = some (.slice S[i].1.1 S[i].1.2.1 S[i].1.2.2) ∧ Bs h S[i].1.1 S[i].1.2.1 S[i].2 := by
  obtain ⟨a, e, hc⟩ := r.2.1.cell (i := i) (by simpa using hi)
  rw [List.getElem_map] at hc
  exact ⟨a, e, hc, (r.2.2 _ (List.getElem_mem _)).2⟩
theorem bls_of {h : Heap} : ∀ {rows : List (List Value)}, (∀ r ∈ rows, Rdb h (.slice (.int .u8)) r) → ∃ S : List (Sl × List UInt8), S.length = rows.length ∧ rows.flatten = S.map (·.1.v) ∧ ∀ e ∈ S, e.1.2.1 ≤ e.1.2.2 ∧ Bs h e.1.1 e.1.2.1 e.2
  | [], _ => ⟨[], rfl, rfl, fun e he => by cases he⟩
  | r :: rs, hr => by
    obtain ⟨S, h1, h2, h3⟩ := bls_of fun x hx => hr x (List.mem_cons_of_mem _ hx)
    obtain ⟨p, l, c, bs, e, hlc, _, hb⟩ := Rdb.bytes (hr r (List.mem_cons_self ..))
    refine ⟨((p, l, c), bs) :: S, by simp [h1], by rw [List.flatten_cons, h2, e]; rfl, fun x hx => ?_⟩
    rcases List.mem_cons.1 hx with h | h
    · subst h; exact ⟨hlc, hb⟩
    · exact h3 x h
theorem bls_arg {h : Heap} {v : Value} (a : ArgR h (.slice (.slice (.int .u8))) v) : ∃ p l c, ∃ S : List (Sl × List UInt8), v = .slice p l c ∧ Bls h p l S := by
  obtain ⟨p, l, c, e, _, _, rows, h1, h2, h3⟩ := a
  obtain ⟨S, g1, g2, g3⟩ := bls_of h3
  exact ⟨p, l, c, S, by simpa using e, by omega, by rw [← g2]; exact h2, g3⟩
theorem bls_rdb {h : Heap} {cs : List Value} (a : Rdb h (.slice (.slice (.int .u8))) cs) : ∃ p l c, ∃ S : List (Sl × List UInt8), cs = [.slice p l c] ∧ l ≤ c ∧ c ≤ maxLen ∧ Bls h p l S := by
  obtain ⟨p, l, c, e, h4, h5, rows, h1, h2, h3⟩ := a
  obtain ⟨S, g1, g2, g3⟩ := bls_of h3
  exact ⟨p, l, c, S, e, h4, h5, by omega, by rw [← g2]; exact h2, g3⟩
/-- Lists of bytes, each in a memory of its own. -/
def owns (S : List (Sl × List UInt8)) : HP := star (S.map fun e => own 1 e.1.1 e.1.2.1 e.1.2.2 (bcs e.2))
theorem ownsL_map : ∀ (S : List (Sl × List UInt8)), OwnsL (S.map fun e => own 1 e.1.1 e.1.2.1 e.1.2.2 (bcs e.2))
  | [] => trivial
  | e :: S => ⟨owns_own, ownsL_map S⟩
theorem owns_owns (S : List (Sl × List UInt8)) : Owns (owns S) := owns_star (ownsL_map S)
section
variable {h0 h : Heap} {F : List HP} {S : List (Sl × List UInt8)}
theorem St.ownsNil (hs : St h0 h F) : St h0 h (owns [] :: F) := hs.add fun m => trivial
theorem St.ownsAdd {p : Option Addr} {l c : Nat} {xs : List UInt8} (hs : St h0 h (owns S :: own 1 p l c (bcs xs) :: F)) : St h0 h (owns (S ++ [((p, l, c), xs)]) :: F) := by
  have h1 := St.flat hs
  have h2 : St h0 h ((S.map (fun e => own 1 e.1.1 e.1.2.1 e.1.2.2 (bcs e.2)) ++ [own 1 p l c (bcs xs)]) ++ F) := by simpa using h1
  have h3 := St.pack h2
  unfold owns
  rw [List.map_append]
  exact h3
theorem shared_mono {m n : Res} (a : rle m n) : rle (shared m) (shared n) := fun b o x hx => by
  unfold shared at hx ⊢
  cases hm : m b o with
  | none => simp [hm] at hx
  | some y => rw [a _ _ _ hm]; simpa [hm] using hx
theorem owns_shared : ∀ {S : List (Sl × List UInt8)} {m : Res}, owns S m → rds S (shared m)
  | [], _, _ => fun e he => by cases he
  | x :: S, m, q => by
    obtain ⟨m1, m2, a, b, _, q1, q2⟩ := q
    intro e he
    rcases List.mem_cons.1 he with h | h
    · subst h
      exact ⟨q1.2.1, rdo_le (own_shared q1) (shared_mono a)⟩
    · have := owns_shared (S := S) q2 e h
      exact ⟨this.1, rdo_le this.2 (shared_mono b)⟩
theorem St.ownsRds (hs : St h0 h (owns S :: F)) : St h0 h (rds S :: F) := hs.share (fun _ => owns_shared) (owns_owns S)
/-- A list that is ours, of lists that are read alone. -/
theorem bls_own {p : Option Addr} {l c : Nat} (hs : St h0 h (own 1 p l c (S.map (·.1.v)) :: rds S :: F)) : Bls h p l S :=
  ⟨by have := hs.len.1; simpa using this, rd_own hs.at, fun e he => ⟨rds_cap hs.up1.at he, rds_get hs.up1.at he⟩⟩
theorem St.blsOld {p : Option Addr} {l : Nat} (hs : St h0 h F) (hb : Bls h0 p l S) : St h0 h (rds S :: F) := by
  have key : ∀ T : List (Sl × List UInt8), (∀ e ∈ T, e ∈ S) → St h0 h (rds T :: F) := by
    intro T
    induction T with
    | nil => intro _; exact hs.rdsNil
    | cons x T ih =>
      intro hT
      have hx := hb.2.2 x (hT x (List.mem_cons_self ..))
      have s := (St.old (ih fun e he => hT e (List.mem_cons_of_mem _ he)) hx.2.2)
      exact St.rdsJoin (S := [x]) (St.rdsOf (c := x.1.2.2) s hx.1)
  exact key S fun e he => he
end
end Go.Vc
