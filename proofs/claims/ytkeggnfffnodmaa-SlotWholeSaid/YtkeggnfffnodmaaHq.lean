/- The heap library, second part: cells of slices, sub-slices, stores into slices. -/
import Derived.Test.YtkeggnfffnodmaaHp
set_option linter.unusedVariables false
namespace Go.Vc
open Go

theorem rowFrom_cell {h : Heap} {a : Addr} : ∀ (n i : Nat) (L : List Value), rowFrom h a i n = some L → L.length = n ∧ ∀ j (hj : j < L.length), cell h (a.add (i + j)) = some L[j]
  | 0, i, L, e => by
    simp [rowFrom] at e
    subst e
    exact ⟨rfl, fun j hj => by simp at hj⟩
  | n + 1, i, L, e => by
    unfold rowFrom at e
    cases hc : cell h (a.add i) with
    | none => simp [hc] at e
    | some v =>
      simp only [hc] at e
      cases hr : rowFrom h a (i + 1) n with
      | none => simp [hr] at e
      | some r =>
        simp [hr] at e
        subst e
        obtain ⟨h1, h2⟩ := rowFrom_cell n (i + 1) r hr
        refine ⟨by simp [h1], fun j hj => ?_⟩
        cases j with
        | zero => simpa using hc
        | succ j =>
          have := h2 j (by simpa using hj)
          rw [show i + (j + 1) = i + 1 + j by omega]
          simpa using this
theorem Rd.cell {h : Heap} {sz : Nat} {p : Option Addr} {l : Nat} {vs : List Value} (hr : Rd h sz p l vs) {i : Nat} (hi : i < vs.length) : ∃ a, p = some a ∧ Vc.cell h (a.add i) = some vs[i] := by
  obtain ⟨h1, h2⟩ := hr
  cases p with
  | none =>
    simp [src] at h2
    subst h2
    simp at hi
  | some a =>
    refine ⟨a, rfl, ?_⟩
    simp only [src, row] at h2
    cases hr : rowFrom h a 0 (l * sz) with
    | none => simp [hr] at h2
    | some L =>
      simp [hr] at h2
      subst h2
      have := (rowFrom_cell _ _ _ hr).2 i hi
      simpa using this
theorem Bs.cell {h : Heap} {p : Option Addr} {l : Nat} {bs : List UInt8} (hb : Bs h p l bs) {i : Nat} (hi : i < bs.length) : ∃ a, p = some a ∧ Vc.cell h (a.add i) = some (bv bs[i]) := by
  obtain ⟨a, e, hc⟩ := hb.2.cell (i := i) (by simpa using hi)
  exact ⟨a, e, by simpa using hc⟩
theorem Bs.ext {h h' : Heap} {p : Option Addr} {l : Nat} {bs : List UInt8} (hb : Bs h p l bs) (e : Ext h h') : Bs h' p l bs := ⟨hb.1, hb.2.ext e⟩
theorem Bs.lt {h : Heap} {p : Option Addr} {l : Nat} {bs : List UInt8} (hb : Bs h p l bs) (hl : 0 < l) : ∃ a, p = some a ∧ a.block < h.size := by
  obtain ⟨a, e, hc⟩ := hb.cell (i := 0) (by rw [hb.1]; exact hl)
  refine ⟨a, e, ?_⟩
  unfold Vc.cell at hc
  have hk : (a.add 0).block = a.block := by unfold Addr.add; split <;> rfl
  rw [hk] at hc
  by_cases hlt : a.block < h.size
  · exact hlt
  · rw [Array.getElem?_eq_none (by omega)] at hc
    simp at hc
theorem Bs.only {S : Nat → Prop} {h h' : Heap} {p : Option Addr} {l : Nat} {bs : List UInt8} (hb : Bs h p l bs) (o : Only S h h') (hd : ∀ a, p = some a → a.block < h.size → ¬ S a.block) : Bs h' p l bs := by
  by_cases hl : 0 < l
  · obtain ⟨a, rfl, hlt⟩ := hb.lt hl
    refine ⟨hb.1, hb.2.same fun a' e => ?_⟩
    cases e
    exact o.2 _ hlt (hd a rfl hlt)
  · have : l = 0 := by omega
    subst this
    have hn := hb.1
    have : bs = [] := List.eq_nil_of_length_eq_zero hn
    subst this
    refine ⟨rfl, by simp, ?_⟩
    cases p <;> simp [src, row, rowFrom]
theorem Own.len {h : Heap} {p : Option Addr} {l c : Nat} {bs : List UInt8} (ho : Own h 1 p l c (bs.map bv)) : bs.length = l := by
  have := ho.1; simpa using this
theorem Own.bs {h : Heap} {p : Option Addr} {l c : Nat} {bs : List UInt8} (ho : Own h 1 p l c (bs.map bv)) : Bs h p l bs := ⟨ho.len, ho.rd⟩

theorem Own.slice {h : Heap} {p : Option Addr} {l c : Nat} {vs : List Value} (ho : Own h 1 p l c vs) {i j m : Nat} (h1 : i ≤ j) (h2 : j ≤ m) (h3 : m ≤ c) (h4 : j ≤ l) :
    Own h 1 (if m = i then p else p.map (·.add (i * 1))) (j - i) (m - i) ((vs.drop i).take (j - i)) ∧ ∀ x, inBlk (if m = i then p else p.map (·.add (i * 1))) x ↔ inBlk p x := by
  obtain ⟨e1, e2, e3, e4⟩ := ho
  simp only [Nat.mul_one] at e1
  rcases e4 with ⟨rfl, rfl⟩ | ⟨b, o, cs, rfl, hb, hle, ht⟩
  · refine ⟨⟨by simp; omega, by omega, by omega, .inl ⟨by simp, by omega⟩⟩, fun x => by simp⟩
  · by_cases hm : m = i
    · rw [if_pos hm]
      refine ⟨⟨by simp; omega, by omega, by omega, .inr ⟨b, o, cs, rfl, hb, by omega, ?_⟩⟩, fun x => Iff.rfl⟩
      have : j - i = 0 := by omega
      simp [this]
    · rw [if_neg hm]
      refine ⟨⟨by simp; omega, by omega, by omega, .inr ⟨b, o + i, cs, by simp [add_mk], hb, by omega, ?_⟩⟩, fun x => ?_⟩
      · rw [← ht, Nat.mul_one, Nat.mul_one, ← List.drop_drop, List.drop_take, List.take_take]
        congr 1
        omega
      · constructor
        · rintro ⟨o', he⟩
          simp [add_mk] at he
          exact ⟨o, by rw [he.1]⟩
        · rintro ⟨o', he⟩
          cases he
          exact ⟨o + i, by simp [add_mk]⟩
theorem sliceP_own {h : Heap} {p : Option Addr} {l c : Nat} {vs : List Value} (ho : Own h 1 p l c vs) {i j m : Nat} {K : Option Addr → Nat → Nat → Prop} (h1 : i ≤ j) (h2 : j ≤ m) (h3 : m ≤ c) (h4 : j ≤ l)
    (hk : ∀ p', Own h 1 p' (j - i) (m - i) ((vs.drop i).take (j - i)) → (∀ x, inBlk p' x ↔ inBlk p x) → K p' (j - i) (m - i)) : sliceP 1 p (i : Int) (j : Int) (m : Int) c K := by
  refine ⟨by omega, by omega, by omega, by omega, ?_⟩
  simp only [Int.toNat_natCast]
  exact hk _ (ho.slice h1 h2 h3 h4).1 (ho.slice h1 h2 h3 h4).2
theorem Own.store {h : Heap} {p : Option Addr} {l c : Nat} {vs : List Value} (ho : Own h 1 p l c vs) {i : Nat} {v : Value} {K : Heap → Prop} (hi : i < l) (hv : v.oneCell' = true)
    (hk : ∀ h', Own h' 1 p l c (vs.set i v) → Only (inBlk p) h h' → h'.size = h.size → K h') : deref p fun a => storeP none h (a.add (i * 1)) v K := by
  obtain ⟨e1, e2, e3, e4⟩ := ho
  simp only [Nat.mul_one] at e1
  rcases e4 with ⟨rfl, rfl⟩ | ⟨b, o, cs, rfl, hb, hle, ht⟩
  · omega
  · rw [deref_some, add_mk]
    refine storeP_blk hb (by omega) hv fun h' b' o' s' => hk h' ⟨by simpa using e1, e2, e3, .inr ⟨b, o, _, rfl, b', by simpa using hle, ?_⟩⟩ (o'.mono fun x _ e => ⟨o, by rw [e]⟩) s'
    rw [← ht]
    simp only [Array.toList_setIfInBounds, Nat.mul_one]
    rw [List.drop_set, if_neg (by omega), List.take_set]
    congr 1
    omega
theorem sizes_one {l : List UInt8} : (l.map bv).length = l.length := by simp

/-- Every byte of an owned slice is stored anew. -/
theorem bump {h : Heap} {p : Option Addr} {l c : Nat} {xs : List UInt8} {K : Heap → Prop} (ho : Own h 1 p l c (xs.map bv))
    (hk : ∀ (h' : Heap) (ys : List UInt8), Own h' 1 p l c (ys.map bv) → Only (inBlk p) h h' → h'.size = h.size → K h') :
    ∃ (I : Int → Heap → Prop) (μ : Int → Heap → Nat), I 0 h ∧ ∀ n h', I n h' → br (decide (n < (l : Int)))
      (0 ≤ n ∧ n < (l : Int) ∧ deref p fun a => ∃ k, cell h' (a.add (n.toNat * 1)) = some (.int .u8 k) ∧ 0 ≤ n ∧ n < (l : Int) ∧ deref p fun a' =>
        storeP none h' (a'.add (n.toNat * 1)) (.int .u8 (IntKind.wrap .u8 (k + 1))) fun h'' => I (IntKind.wrap .i64 (n + 1)) h'' ∧ μ (IntKind.wrap .i64 (n + 1)) h'' < μ n h')
      (K h') := by
  have hmax := ho.2.2.1
  have hcl := ho.2.1
  unfold maxLen at hmax
  refine ⟨fun n h' => ∃ (i : Nat) (ys : List UInt8), n = i ∧ i ≤ l ∧ Own h' 1 p l c (ys.map bv) ∧ Only (inBlk p) h h' ∧ h'.size = h.size, fun n _ => l - n.toNat, ⟨0, xs, rfl, Nat.zero_le _, ho, Only.refl _ _, rfl⟩, ?_⟩
  rintro n h' ⟨i, ys, rfl, hi, hy, hon, hsz⟩
  rw [br_decide]
  refine ⟨fun hlt => ⟨by omega, hlt, ?_⟩, fun _ => hk h' ys hy hon hsz⟩
  have hlt' : i < l := by omega
  obtain ⟨a, rfl, hc⟩ := hy.bs.cell (i := i) (by rw [hy.len]; exact hlt')
  refine ⟨((ys[i]'(by rw [hy.len]; exact hlt')).toNat : Int), by simpa [bv] using hc, by omega, hlt, ?_⟩
  refine Own.store (i := i) hy hlt' rfl fun h'' hy' hon' hsz' => ?_
  rw [wrap_i64 (by omega) (by omega)]
  refine ⟨⟨i + 1, ys.set i (UInt8.ofNat ((ys[i]'(by rw [hy.len]; exact hlt')).toNat + 1)), by omega, by omega, ?_, hon.trans hon' (fun _ h => h) (fun _ _ h => h), by omega⟩, by simp; omega⟩
  have : (ys.set i (UInt8.ofNat ((ys[i]'(by rw [hy.len]; exact hlt')).toNat + 1))).map bv = (ys.map bv).set i (.int .u8 (IntKind.wrap .u8 (((ys[i]'(by rw [hy.len]; exact hlt')).toNat : Int) + 1))) := by
    rw [List.map_set, byte_of_int, wrap_u8]
    congr 1
  rw [this]
  exact hy'

/-! ### What came in with the call -/
theorem rowFrom_of {h : Heap} {a : Addr} : ∀ (vs : List Value) (i : Nat), (∀ j (hj : j < vs.length), cell h (a.add (i + j)) = some vs[j]) → rowFrom h a i vs.length = some vs
  | [], i, _ => rfl
  | v :: r, i, hc => by
    have h0 := hc 0 (by simp)
    simp at h0
    have hr := rowFrom_of r (i + 1) fun j hj => by
      have := hc (j + 1) (by simpa using hj)
      rw [show i + 1 + j = i + (j + 1) by omega]
      simpa using this
    simp [rowFrom, h0, hr]
theorem row_of {h : Heap} {a : Addr} (vs : List Value) (hc : ∀ j (hj : j < vs.length), cell h (a.add j) = some vs[j]) : row h a vs.length = some vs.toArray := by
  unfold row
  rw [rowFrom_of vs 0 (by simpa using hc)]
  rfl
/-- Numbers that fit a byte are bytes. -/
theorem bytes_of : ∀ (zs : List Int), (∀ n ∈ zs, (Lit.int .u8 n).wf = true) → ∃ bs : List UInt8, bs.length = zs.length ∧ bs.map bv = zs.map (Value.int .u8)
  | [], _ => ⟨[], rfl, rfl⟩
  | z :: r, hz => by
    obtain ⟨bs, h1, h2⟩ := bytes_of r fun n hn => hz n (List.mem_cons_of_mem _ hn)
    have hw := hz z (List.mem_cons_self ..)
    have hr : 0 ≤ z ∧ z < 256 := by
      simp [Lit.wf, IntKind.min, IntKind.max, IntKind.bits, IntKind.signed] at hw
      omega
    refine ⟨UInt8.ofNat z.toNat :: bs, by simp [h1], ?_⟩
    rw [List.map_cons, List.map_cons, h2, byte_of_int]
    congr 2
    omega
theorem Bs.of {h : Heap} {a : Option Addr} {len cap : Nat} {zs : List Int}
    (w : (a = none ∧ len = 0 ∧ cap = 0 ∧ zs = []) ∨ ∃ x, a = some x ∧ len ≤ cap ∧ cap ≤ maxLen ∧ zs.length = cap ∧ (∀ i, i < zs.length → Vc.cell h (x.add i) = some (.int .u8 (zs.getD i 0))) ∧ ∀ n ∈ zs, (Lit.int .u8 n).wf = true) :
    ∃ bs, Bs h a len bs := by
  rcases w with ⟨rfl, rfl, rfl, rfl⟩ | ⟨x, rfl, h1, h2, h3, h4, h5⟩
  · exact ⟨[], rfl, Rd.nil h 1⟩
  · obtain ⟨bs, e1, e2⟩ := bytes_of (zs.take len) fun n hn => h5 n (List.mem_of_mem_take hn)
    have el : bs.length = len := by rw [e1, List.length_take]; omega
    refine ⟨bs, el, by simp [el], ?_⟩
    have hr := row_of (h := h) (a := x) (bs.map bv) fun j hj => by
      have hj' : j < len := by simp [el] at hj; exact hj
      rw [h4 j (by omega)]
      have e3 : (bs.map bv)[j] = ((zs.take len).map (Value.int .u8))[j]'(by simp; omega) := by congr 1
      rw [e3]
      simp [List.getD_eq_getElem?_getD, List.getElem?_eq_getElem (show j < zs.length by omega)]
    simpa [src, el] using hr
end Go.Vc
