/- Layer 1: what is taken, by the program and by the reference; the laws on reading. -/
import Derived.Test.Ytlalhdkehcldkaa1e
set_option linter.unusedVariables false
set_option maxRecDepth 100000
namespace Go.Proofs.Ytlalhdkehcldkaa
open Go Go.Vc Go.Proofs

/- ### Parts of bytes that are read -/
theorem Bs.take {h : Heap} {p : Option Addr} {l n : Nat} {bs : List UInt8} (hb : Bs h p l bs) (hn : n ≤ l) : Bs h p n (bs.take n) := by
  have hl := hb.1
  refine ⟨by simp; omega, by simp; omega, ?_⟩
  by_cases hz : n = 0
  · subst hz; simp [src_zero]
  · obtain ⟨a, rfl, _⟩ := hb.cell (i := 0) (by omega)
    have := row_of (h := h) (a := a) ((bs.take n).map bv) fun j hj => by
      have hj' : j < n := by simp at hj; omega
      obtain ⟨a', e, hc⟩ := hb.cell (i := j) (by omega)
      cases e
      rw [hc]
      simp
    simp only [List.length_map, List.length_take, Nat.min_eq_left (show n ≤ bs.length by omega)] at this
    simpa [src] using this
theorem Bs.drop {h : Heap} {p : Option Addr} {l c n : Nat} {bs : List UInt8} (hb : Bs h p l bs) (hn : n ≤ l) : Bs h (if c = n then p else p.map fun a => a.add (n * 1)) (l - n) (bs.drop n) ∨ c = n := by
  have hl := hb.1
  by_cases hcn : c = n
  · exact .inr hcn
  refine .inl ?_
  rw [if_neg hcn]
  refine ⟨by simp; omega, by simp; omega, ?_⟩
  by_cases hz : l - n = 0
  · have : bs.drop n = [] := List.drop_of_length_le (by omega)
    rw [hz, this]; simp [src_zero]
  · obtain ⟨a, rfl, h0⟩ := hb.cell (i := 0) (by omega)
    have hsp : a.spot = none := by
      have := spot_none h0
      simpa [Addr.add] using this
    have := row_of (h := h) (a := a.add n) ((bs.drop n).map bv) fun j hj => by
      have hj' : n + j < bs.length := by simp at hj; omega
      obtain ⟨a', e, hc⟩ := hb.cell (i := n + j) hj'
      cases e
      rw [add_add _ _ _ hsp, hc]
      simp
    simp only [List.length_map, List.length_drop, hl] at this
    simpa [src, Nat.mul_one] using this
theorem Bs.rest {h : Heap} {p : Option Addr} {l c n : Nat} {bs : List UInt8} (hb : Bs h p l bs) (hn : n ≤ l) (hc : l ≤ c) : Bs h (if c = n then p else p.map fun a => a.add (n * 1)) (l - n) (bs.drop n) := by
  rcases Bs.drop (c := c) hb hn with h1 | h1
  · exact h1
  · have hl := hb.1
    have e1 : l - n = 0 := by omega
    have e2 : bs.drop n = [] := List.drop_of_length_le (by omega)
    rw [e1, e2]
    exact ⟨rfl, by simp, by simp [src_zero]⟩
theorem sliceP_to {p : Option Addr} {c n : Nat} {K : Option Addr → Nat → Nat → Prop} (hn : n ≤ c) (hk : K p n c) : sliceP 1 p 0 (n : Int) (c : Int) c K := by
  refine ⟨by omega, by omega, by omega, by omega, ?_⟩
  simp only [Int.toNat_natCast, Int.toNat_zero, Nat.sub_zero]
  rw [map_add0]
  exact hk
theorem sliceP_from {p : Option Addr} {l c n : Nat} {K : Option Addr → Nat → Nat → Prop} (hn : n ≤ l) (hc : l ≤ c) (hk : K (if c = n then p else p.map fun a => a.add (n * 1)) (l - n) (c - n)) : sliceP 1 p (n : Int) (l : Int) (c : Int) c K := by
  refine ⟨by omega, by omega, by omega, by omega, ?_⟩
  simp only [Int.toNat_natCast]
  exact hk
theorem sliceP_mid {p : Option Addr} {l c n m : Nat} {K : Option Addr → Nat → Nat → Prop} (hn : n ≤ m) (hm : m ≤ l) (hc : l ≤ c) (hk : K (if c = n then p else p.map fun a => a.add (n * 1)) (m - n) (c - n)) : sliceP 1 p (n : Int) (m : Int) (c : Int) c K := by
  refine ⟨by omega, by omega, by omega, by omega, ?_⟩
  simp only [Int.toNat_natCast]
  exact hk
theorem Bs.mid {h : Heap} {p : Option Addr} {l c n m : Nat} {bs : List UInt8} (hb : Bs h p l bs) (hn : n ≤ m) (hm : m ≤ l) (hc : l ≤ c) : Bs h (if c = n then p else p.map fun a => a.add (n * 1)) (m - n) ((bs.drop n).take (m - n)) :=
  Bs.take (Bs.rest hb (by omega) hc) (by omega)

/- ### What is taken: a number, bytes, what is left, whether it fails -/
def takeW (bs : List UInt8) (f : Bool) (k : Int) (most : Int) : Nat × List UInt8 × List UInt8 × Bool :=
  if k = 1 then ((numR bs f 1).1, [], (numR bs f 1).2) else if k = 2 then ((numR bs f 2).1, [], (numR bs f 2).2) else if k = 3 then ((numR bs f 4).1, [], (numR bs f 4).2) else if k = 4 then ((numR bs f 8).1, [], (numR bs f 8).2)
  else if k = 5 then ((if (flagR bs f).1 then 1 else 0), [], (flagR bs f).2) else if k = 6 then (0, takeR bs f most) else if k = 7 then (0, strR bs f most) else if k = 8 then ((countR bs f most).1, [], (countR bs f most).2) else (0, [], bs, f)
def bad (bs : List UInt8) : Nat × List UInt8 × List UInt8 × Bool := (0, [], bs, true)
theorem takeW_true (bs : List UInt8) {k : Int} (most : Int) (h1 : 1 ≤ k) (h8 : k ≤ 8) : takeW bs true k most = bad bs := by
  unfold takeW bad
  by_cases e1 : k = 1
  · rw [if_pos e1, numR_true]
  rw [if_neg e1]
  by_cases e2 : k = 2
  · rw [if_pos e2, numR_true]
  rw [if_neg e2]
  by_cases e3 : k = 3
  · rw [if_pos e3, numR_true]
  rw [if_neg e3]
  by_cases e4 : k = 4
  · rw [if_pos e4, numR_true]
  rw [if_neg e4]
  by_cases e5 : k = 5
  · rw [if_pos e5, flagR, if_neg (by simp)]; rfl
  rw [if_neg e5]
  by_cases e6 : k = 6
  · rw [if_pos e6, takeR, if_neg (by simp)]
  rw [if_neg e6]
  by_cases e7 : k = 7
  · rw [if_pos e7, strR, if_neg (by simp)]
  rw [if_neg e7, if_pos (by omega), countR, if_neg (by simp)]
def needK (k : Int) : Nat := if k = 7 then 2 else sizeK k
/-- What the reference takes, but plain bytes. -/
def refT (bs : List UInt8) (k most : Int) : Nat × List UInt8 × List UInt8 × Bool :=
  let v := valB (bs.take (needK k))
  if bs.length < needK k then bad bs else if k = 5 ∧ 1 < v then bad bs else if k = 8 ∧ (most < (v : Int) ∨ 4096 < v) then bad bs
  else if k = 7 then (if most < (v : Int) ∨ 8192 < v ∨ bs.length < v + 2 then bad bs else (0, (bs.drop 2).take v, bs.drop (2 + v), false)) else (v, [], bs.drop (needK k), false)
theorem num_ref (bs : List UInt8) (n : Nat) : ((numR bs false n).1, ([] : List UInt8), (numR bs false n).2) = if bs.length < n then bad bs else (valB (bs.take n), [], bs.drop n, false) := by
  unfold numR bad
  by_cases h : bs.length < n
  · rw [if_neg (by omega), if_pos h]
  · rw [if_pos ⟨rfl, by omega⟩, if_neg h]
theorem flagR_ok {bs : List UInt8} (h1 : 1 ≤ bs.length) (h2 : valB (bs.take 1) ≤ 1) : flagR bs false = (decide (valB (bs.take 1) = 1), bs.drop 1, false) := by rw [flagR, if_pos ⟨rfl, h1, h2⟩]
theorem flagR_bad {bs : List UInt8} (h : ¬ (1 ≤ bs.length ∧ valB (bs.take 1) ≤ 1)) : flagR bs false = (false, bs, true) := by rw [flagR, if_neg (fun hh => h hh.2)]
theorem strR_ok {bs : List UInt8} {most : Int} (h : 2 ≤ bs.length ∧ (valB (bs.take 2) : Int) ≤ most ∧ valB (bs.take 2) ≤ 8192 ∧ valB (bs.take 2) + 2 ≤ bs.length) : strR bs false most = ((bs.drop 2).take (valB (bs.take 2)), bs.drop (2 + valB (bs.take 2)), false) := by rw [strR, if_pos ⟨rfl, h⟩]
theorem strR_bad {bs : List UInt8} {most : Int} (h : ¬ (2 ≤ bs.length ∧ (valB (bs.take 2) : Int) ≤ most ∧ valB (bs.take 2) ≤ 8192 ∧ valB (bs.take 2) + 2 ≤ bs.length)) : strR bs false most = ([], bs, true) := by rw [strR, if_neg (fun hh => h hh.2)]
theorem countR_ok {bs : List UInt8} {most : Int} (h : 2 ≤ bs.length ∧ (valB (bs.take 2) : Int) ≤ most ∧ valB (bs.take 2) ≤ 4096) : countR bs false most = (valB (bs.take 2), bs.drop 2, false) := by rw [countR, if_pos ⟨rfl, h⟩]
theorem countR_bad {bs : List UInt8} {most : Int} (h : ¬ (2 ≤ bs.length ∧ (valB (bs.take 2) : Int) ≤ most ∧ valB (bs.take 2) ≤ 4096)) : countR bs false most = (0, bs, true) := by rw [countR, if_neg (fun hh => h hh.2)]
theorem takeW_ref (bs : List UInt8) {k : Int} (most : Int) (h1 : 1 ≤ k) (h8 : k ≤ 8) (h6 : k ≠ 6) : takeW bs false k most = refT bs k most := by
  unfold takeW refT
  simp only
  by_cases e1 : k = 1
  · subst e1
    rw [if_pos rfl, num_ref]
    rfl
  rw [if_neg e1]
  by_cases e2 : k = 2
  · subst e2
    rw [if_pos rfl, num_ref]
    rfl
  rw [if_neg e2]
  by_cases e3 : k = 3
  · subst e3
    rw [if_pos rfl, num_ref]
    rfl
  rw [if_neg e3]
  by_cases e4 : k = 4
  · subst e4
    rw [if_pos rfl, num_ref]
    rfl
  rw [if_neg e4]
  by_cases e5 : k = 5
  · subst e5
    rw [if_pos rfl]
    have en : needK 5 = 1 := rfl
    rw [en]
    by_cases hc : 1 ≤ bs.length ∧ valB (bs.take 1) ≤ 1
    · have hL : ((if (flagR bs false).1 then 1 else 0), ([] : List UInt8), (flagR bs false).2) = (valB (bs.take 1), [], bs.drop 1, false) := by
        rw [flagR_ok hc.1 hc.2]
        by_cases h1 : valB (bs.take 1) = 1
        · simp [h1]
        · have h0 : valB (bs.take 1) = 0 := by omega
          simp [h0]
      rw [hL, if_neg (by omega), if_neg (by omega), if_neg (by omega), if_neg (by omega)]
    · have hL : ((if (flagR bs false).1 then 1 else 0), ([] : List UInt8), (flagR bs false).2) = bad bs := by rw [flagR_bad hc]; rfl
      rw [hL]
      by_cases hl : bs.length < 1
      · rw [if_pos hl]
      · rw [if_neg hl, if_pos (by omega)]
  rw [if_neg e5, if_neg h6]
  by_cases e7 : k = 7
  · subst e7
    rw [if_pos rfl]
    have en : needK 7 = 2 := rfl
    rw [en]
    by_cases hc : 2 ≤ bs.length ∧ (valB (bs.take 2) : Int) ≤ most ∧ valB (bs.take 2) ≤ 8192 ∧ valB (bs.take 2) + 2 ≤ bs.length
    · rw [strR_ok hc, if_neg (by omega), if_neg (by omega), if_neg (by omega), if_pos rfl, if_neg (by omega)]
    · rw [strR_bad hc]
      by_cases hl : bs.length < 2
      · rw [if_pos hl]; rfl
      · rw [if_neg hl, if_neg (by omega), if_neg (by omega), if_pos rfl, if_pos (by omega)]; rfl
  · rw [if_neg e7, if_pos (by omega)]
    have e8 : k = 8 := by omega
    subst e8
    have en : needK 8 = 2 := rfl
    rw [en]
    by_cases hc : 2 ≤ bs.length ∧ (valB (bs.take 2) : Int) ≤ most ∧ valB (bs.take 2) ≤ 4096
    · rw [countR_ok hc, if_neg (by omega), if_neg (by omega), if_neg (by omega), if_neg (by omega)]
    · rw [countR_bad hc]
      by_cases hl : bs.length < 2
      · rw [if_pos hl]; rfl
      · rw [if_neg hl, if_neg (by omega), if_pos (by omega)]; rfl
theorem takeW_fail (bs : List UInt8) {k : Int} (most : Int) (h1 : 1 ≤ k) (h8 : k ≤ 8) (hf : (takeW bs false k most).2.2.2 = true) : takeW bs false k most = bad bs := by
  by_cases h6 : k = 6
  · subst h6
    have e : takeW bs false 6 most = (0, takeR bs false most) := rfl
    rw [e] at hf ⊢
    unfold takeR at hf ⊢
    split at hf
    · cases hf
    · rename_i hc; rw [if_neg hc]; rfl
  · rw [takeW_ref bs most h1 h8 h6] at hf ⊢
    unfold refT at hf ⊢
    simp only at hf ⊢
    by_cases c1 : bs.length < needK k
    · rw [if_pos c1]
    rw [if_neg c1] at hf ⊢
    by_cases c2 : k = 5 ∧ 1 < valB (bs.take (needK k))
    · rw [if_pos c2]
    rw [if_neg c2] at hf ⊢
    by_cases c3 : k = 8 ∧ (most < (valB (bs.take (needK k)) : Int) ∨ 4096 < valB (bs.take (needK k)))
    · rw [if_pos c3]
    rw [if_neg c3] at hf ⊢
    by_cases c4 : k = 7
    · rw [if_pos c4] at hf ⊢
      by_cases c5 : most < (valB (bs.take (needK k)) : Int) ∨ 8192 < valB (bs.take (needK k)) ∨ bs.length < valB (bs.take (needK k)) + 2
      · rw [if_pos c5]
      · rw [if_neg c5] at hf; cases hf
    · rw [if_neg c4] at hf; cases hf

theorem take_ok {h0 h : Heap} {F : List HP} {b : Nat} {bs : List UInt8} {f : Bool} (hs : St h0 h (W b bs f :: F)) (k most : Int) :
    CallsH Try.prog n_law01_take #[ptr b, .int .i64 k, .int .u64 most] h fun v h' => ∃ p l c, v = .agg #[.int .i64 k, .int .u64 (takeW bs f k (IntKind.wrap .i64 most)).1, .slice p l c] ∧
      St h0 h' (W b (takeW bs f k (IntKind.wrap .i64 most)).2.2.1 (takeW bs f k (IntKind.wrap .i64 most)).2.2.2 :: own 1 p l c (bcs (takeW bs f k (IntKind.wrap .i64 most)).2.1) :: F) := by
  refine C_law01_take _ k most ?_
  unfold F_law01_take
  have o3 : ∀ {x : Int} {q : Option Addr} {l c : Nat}, one #[Value.int .i64 k, .int .u64 x, .slice q l c] := fun v hv => by simp at hv; rcases hv with rfl | rfl | rfl <;> rfl
  refine hs.newBlk fun b0 h1 _ s e => s.newBlk fun b2 h3 _ s e => s.storeAll rfl rfl o3 fun h4 s => ?_
  simp only [Nat.zero_add]
  generalize hw : takeW bs f k (IntKind.wrap .i64 most) = t
  have s : St h0 h4 (W b bs f :: pts b2 0 false [.int .i64 k, .int .u64 0, .slice none 0 0] :: pts b0 0 false [.int .i64 0, .int .u64 0, .slice none 0 0] :: F) := s.up2
  have fin : ∀ {h9 : Heap} {x : Int} {p : Option Addr} {l c : Nat}, St h0 h9 (pts b2 0 false [.int .i64 k, .int .u64 x, .slice p l c] :: W b t.2.2.1 t.2.2.2 :: own 1 p l c (bcs t.2.1) :: pts b0 0 false [.int .i64 0, .int .u64 0, .slice none 0 0] :: F) → x = t.1 →
      ∃ cs : Array Value, row h9 (Addr.mk b2 0 none) 3 = some cs ∧ storeP (some 3) h9 (Addr.mk b0 0 none) (.agg cs) fun h10 => ∃ cs' : Array Value, row h10 (Addr.mk b0 0 none) 3 = some cs' ∧
        (∃ p l c, Value.agg cs' = .agg #[.int .i64 k, .int .u64 t.1, .slice p l c] ∧ St h0 h10 (W b t.2.2.1 t.2.2.2 :: own 1 p l c (bcs t.2.1) :: F)) := by
    intro h9 x p l c s hx
    subst hx
    refine ⟨_, s.row0 rfl, s.up3.storeAll rfl rfl o3 fun h10 s => ⟨_, s.row0 rfl, p, l, c, rfl, ?_⟩⟩
    exact s.drop.drop
  have num : ∀ {h9 : Heap} {x : Int}, St h0 h9 (W b t.2.2.1 t.2.2.2 :: pts b2 0 false [.int .i64 k, .int .u64 0, .slice none 0 0] :: pts b0 0 false [.int .i64 0, .int .u64 0, .slice none 0 0] :: F) → x = t.1 → t.2.1 = [] →
      storeP none h9 (Addr.mk b2 1 none) (.int .u64 x) fun h8 => ∃ cs : Array Value, row h8 (Addr.mk b2 0 none) 3 = some cs ∧ storeP (some 3) h8 (Addr.mk b0 0 none) (.agg cs) fun h10 => ∃ cs' : Array Value, row h10 (Addr.mk b0 0 none) 3 = some cs' ∧
        (∃ p l c, Value.agg cs' = .agg #[.int .i64 k, .int .u64 t.1, .slice p l c] ∧ St h0 h10 (W b t.2.2.1 t.2.2.2 :: own 1 p l c (bcs t.2.1) :: F)) := by
    intro h9 x s hx ht
    refine s.up1.store0 (by simp) rfl fun h8 s => fin (p := none) (l := 0) (c := 0) ?_ hx
    rw [ht]
    exact (s.nil 1).up2.up2
  have sl : ∀ {h9 : Heap} {p : Option Addr} {l c : Nat}, St h0 h9 (W b t.2.2.1 t.2.2.2 :: own 1 p l c (bcs t.2.1) :: pts b2 0 false [.int .i64 k, .int .u64 0, .slice none 0 0] :: pts b0 0 false [.int .i64 0, .int .u64 0, .slice none 0 0] :: F) → t.1 = 0 →
      storeP none h9 (Addr.mk b2 2 none) (.slice p l c) fun h8 => ∃ cs : Array Value, row h8 (Addr.mk b2 0 none) 3 = some cs ∧ storeP (some 3) h8 (Addr.mk b0 0 none) (.agg cs) fun h10 => ∃ cs' : Array Value, row h10 (Addr.mk b0 0 none) 3 = some cs' ∧
        (∃ p l c, Value.agg cs' = .agg #[.int .i64 k, .int .u64 t.1, .slice p l c] ∧ St h0 h10 (W b t.2.2.1 t.2.2.2 :: own 1 p l c (bcs t.2.1) :: F)) := by
    intro h9 p l c s ht
    exact s.up2.store0 (by simp) rfl fun h8 s => fin (x := 0) (p := p) (l := l) (c := c) s (by rw [ht]; rfl)
  have lt : ∀ n, n ≤ 8 → (numR bs f n).1 < 18446744073709551616 := fun n hn => Nat.lt_of_lt_of_le (numR_lt bs f n) (by
    have : 256 ^ n ≤ 256 ^ 8 := Nat.pow_le_pow_right (by omega) hn
    exact Nat.le_trans this (by decide))
  have wu : ∀ {x : Nat}, x < 18446744073709551616 → IntKind.wrap .u64 (x : Int) = (x : Int) := fun hx => by rw [wrap_u64]; omega
  simp only [br_beq]
  refine ⟨fun e1 => ?_, fun e1 => ⟨fun e2 => ?_, fun e2 => ⟨fun e3 => ?_, fun e3 => ⟨fun e4 => ?_, fun e4 => ⟨fun e5 => ?_, fun e5 => ⟨fun e6 => ?_, fun e6 => ⟨fun e7 => ?_, fun e7 => ⟨fun e8 => ?_, fun e8 => ?_⟩⟩⟩⟩⟩⟩⟩⟩
  · refine (rU8_ok s).mono fun v h6 ⟨hv, s⟩ => ⟨_, hv, ?_⟩
    unfold takeW at hw; rw [if_pos e1] at hw; subst hw
    exact num s (wu (lt 1 (by omega))) rfl
  · refine (rU16_ok s).mono fun v h6 ⟨hv, s⟩ => ⟨_, hv, ?_⟩
    unfold takeW at hw; rw [if_neg e1, if_pos e2] at hw; subst hw
    exact num s (wu (lt 2 (by omega))) rfl
  · refine (rU32_ok s).mono fun v h6 ⟨hv, s⟩ => ⟨_, hv, ?_⟩
    unfold takeW at hw; rw [if_neg e1, if_neg e2, if_pos e3] at hw; subst hw
    exact num s (wu (lt 4 (by omega))) rfl
  · refine (rU64_ok s).mono fun v h6 ⟨hv, s⟩ => ⟨_, hv, ?_⟩
    unfold takeW at hw; rw [if_neg e1, if_neg e2, if_neg e3, if_pos e4] at hw; subst hw
    exact num s rfl rfl
  · refine (rFlag_ok s).mono fun v h6 ⟨hv, s⟩ => ⟨_, hv, ?_⟩
    unfold takeW at hw; rw [if_neg e1, if_neg e2, if_neg e3, if_neg e4, if_pos e5] at hw; subst hw
    rcases Bool.eq_false_or_eq_true (flagR bs f).1 with hfl | hfl
    · exact br_yes hfl (num s (by simp only [hfl]; rfl) rfl)
    · refine br_no hfl (fin (x := 0) (p := none) (l := 0) (c := 0) ?_ (by simp [hfl]))
      exact (s.up1.nil 1).up2.up2
  · refine (rPlain_ok s _).mono fun v h6 ⟨p, l, c, hv, s⟩ => ⟨p, l, c, hv, ?_⟩
    unfold takeW at hw; rw [if_neg e1, if_neg e2, if_neg e3, if_neg e4, if_neg e5, if_pos e6] at hw; subst hw
    exact sl s rfl
  · refine (rString_ok s _).mono fun v h6 ⟨p, l, c, hv, s⟩ => ⟨p, l, c, hv, ?_⟩
    unfold takeW at hw; rw [if_neg e1, if_neg e2, if_neg e3, if_neg e4, if_neg e5, if_neg e6, if_pos e7] at hw; subst hw
    exact sl s rfl
  · refine (rCount_ok s _).mono fun v h6 ⟨hv, s⟩ => ⟨_, hv, ?_⟩
    unfold takeW at hw; rw [if_neg e1, if_neg e2, if_neg e3, if_neg e4, if_neg e5, if_neg e6, if_neg e7, if_pos e8] at hw; subst hw
    have hlt : (countR bs f (IntKind.wrap .i64 most)).1 < 18446744073709551616 := by
      unfold countR
      split
      · have := valB_le (bs := bs.take 2) (n := 2) (by simp; omega)
        exact Nat.lt_trans this (by decide)
      · show (0 : Nat) < _; omega
    exact num s (wu hlt) rfl
  · unfold takeW at hw; rw [if_neg e1, if_neg e2, if_neg e3, if_neg e4, if_neg e5, if_neg e6, if_neg e7, if_neg e8] at hw; subst hw
    refine fin (x := 0) (p := none) (l := 0) (c := 0) ?_ rfl
    exact (s.up1.nil 1).up2.up2

/-- What the reference hands back. -/
def TakeRes (h0 h : Heap) (t : Nat × List UInt8 × List UInt8 × Bool) (v : Value) (h' : Heap) : Prop :=
  (∃ k' p1 l1 c1 p2 l2 c2, v = .tuple #[.agg #[.int .i64 k', .int .u64 (t.1 : Int), .slice p1 l1 c1], .slice p2 l2 c2, .bool (!t.2.2.2)] ∧ Bs h0 p1 l1 t.2.1 ∧ Bs h0 p2 l2 t.2.2.1 ∧ l2 ≤ c2 ∧ c2 ≤ maxLen) ∧ Ext h h'
theorem rtake_ok {h0 h : Heap} {p : Option Addr} {l c : Nat} {bs : List UInt8} (e0 : Ext h0 h) (hb : Bs h0 p l bs) (hc : l ≤ c) (hcm : c ≤ maxLen) {k most : Int} (hk1 : 1 ≤ k) (hk8 : k ≤ 8) (hm : 0 ≤ most) :
    CallsH Try.prog n_ref01_Take #[.slice p l c, .int .i64 k, .int .u64 most] h (TakeRes h0 h (takeW bs false k most)) := by
  refine C_ref01_Take p l c k most ?_
  unfold F_ref01_Take
  have hl := hb.1
  have hcm' := hcm
  unfold maxLen at hcm'
  have o3 : ∀ {k x : Int} {q : Option Addr} {l c : Nat}, one #[Value.int .i64 k, .int .u64 x, .slice q l c] := fun v hv => by simp at hv; rcases hv with rfl | rfl | rfl <;> rfl
  refine (St.start h).newBlk fun b0 h1 _ s e => s.newBlk fun b2 h3 _ s e => s.storeAll rfl rfl o3 fun h4 s => ?_
  simp only [Nat.zero_add]
  have fail : ∀ {h9 : Heap} {G : List HP}, St h h9 (pts b0 0 false [.int .i64 0, .int .u64 0, .slice none 0 0] :: G) → takeW bs false k most = bad bs → storeP (some 3) h9 (Addr.mk b0 0 none) (.agg #[.int .i64 0, .int .u64 0, .slice none 0 0]) fun h5 =>
      ∃ cs6 : Array Value, row h5 (Addr.mk b0 0 none) 3 = some cs6 ∧ TakeRes h0 h (takeW bs false k most) (.tuple #[.agg cs6, .slice p l c, .bool false]) h5 := by
    intro h9 G s ht
    refine s.ret (R := fun cs h5 => TakeRes h0 h (takeW bs false k most) (.tuple #[.agg cs, .slice p l c, .bool false]) h5) rfl rfl o3 fun h' e => ?_
    rw [ht]
    exact ⟨⟨0, none, 0, 0, p, l, c, rfl, ⟨rfl, Rd.nil _ _⟩, hb, hc, hcm⟩, e⟩
  have fin : ∀ {h9 : Heap} {G : List HP} {x : Nat} {q q2 : Option Addr} {m d m2 d2 : Nat} {xs rest : List UInt8}, St h h9 (pts b0 0 false [.int .i64 0, .int .u64 0, .slice none 0 0] :: G) → takeW bs false k most = (x, xs, rest, false) → Bs h0 q m xs → Bs h0 q2 m2 rest → m2 ≤ d2 → d2 ≤ maxLen →
      storeP (some 3) h9 (Addr.mk b0 0 none) (.agg #[.int .i64 k, .int .u64 (x : Int), .slice q m d]) fun h5 => ∃ cs6 : Array Value, row h5 (Addr.mk b0 0 none) 3 = some cs6 ∧ TakeRes h0 h (takeW bs false k most) (.tuple #[.agg cs6, .slice q2 m2 d2, .bool true]) h5 := by
    intro h9 G x q q2 m d m2 d2 xs rest s ht g1 g2 g3 g4
    refine s.ret (R := fun cs h5 => TakeRes h0 h (takeW bs false k most) (.tuple #[.agg cs, .slice q2 m2 d2, .bool true]) h5) rfl rfl o3 fun h' e => ?_
    rw [ht]
    exact ⟨⟨k, q, m, d, q2, m2, d2, rfl, g1, g2, g3, g4⟩, e⟩
  have ewl : IntKind.wrap .u64 (l : Int) = (l : Int) := by rw [wrap_u64]; omega
  rw [ewl, br_beq]
  refine ⟨fun e6 => ?_, fun e6 => ?_⟩
  · have ht : takeW bs false k most = (0, takeR bs false most) := by rw [e6]; rfl
    rw [br_decide]
    refine ⟨fun hgt => fail s.up1 (by rw [ht, takeR, if_neg (by omega)]; rfl), fun hle => ?_⟩
    obtain ⟨n, rfl⟩ : ∃ n : Nat, most = n := ⟨most.toNat, by omega⟩
    refine sliceP_to (by omega) (s.store0 (by simp) rfl fun h10 s => ⟨_, s.row0 rfl, sliceP_from (by omega) hc ?_⟩)
    rw [takeR, if_pos ⟨rfl, by omega, by omega⟩, Int.toNat_natCast] at ht
    exact fin (x := 0) s.up1 ht (Bs.take hb (by omega)) (Bs.rest hb (by omega) hc) (by omega) (by omega)
  · have ht := takeW_ref bs most hk1 hk8 e6
    refine (size_ok k).mono fun v h18 ⟨hv, hh⟩ => ?_
    subst hh
    refine ⟨Ext.refl _, _, hv, fun n h' => n = needK k ∧ h' = h18, ?_, ?_⟩
    · rw [br_beq]
      exact ⟨fun e7 => ⟨by rw [e7]; rfl, rfl⟩, fun e7 => ⟨by rw [needK, if_neg e7], rfl⟩⟩
    rintro n h22 ⟨rfl, rfl⟩
    have hn8 : needK k ≤ 8 := by
      unfold needK sizeK
      repeat' split
      all_goals omega
    rw [br_decide]
    refine ⟨fun hlt => fail s.up1 (by rw [ht]; unfold refT; simp only; rw [if_pos (by omega)]), fun hge => ?_⟩
    refine sliceP_to (by omega) ((value_ok (Bs.take (hb.ext (e0.trans s.ext)) (by omega)) hn8).mono fun v h29 ⟨hv, hh⟩ => ?_)
    subst hh
    have hv8 : valB (bs.take (needK k)) < 18446744073709551616 := by
      have := valB_le (bs := bs.take (needK k)) (n := 8) (by simp; omega)
      exact Nat.lt_of_lt_of_le this (by decide)
    unfold refT at ht
    simp only at ht
    rw [if_neg (show ¬ bs.length < needK k by omega)] at ht
    refine ⟨Ext.refl _, _, hv, fun _ h' => h' = h29 ∧ ¬ (k = 5 ∧ 1 < valB (bs.take (needK k))) ∧ ¬ (k = 8 ∧ (most < (valB (bs.take (needK k)) : Int) ∨ 4096 < valB (bs.take (needK k)))), ?_, ?_⟩
    · rw [br_beq]
      refine ⟨fun e5 => ?_, fun e5 => ?_⟩
      · rw [br_decide]
        refine ⟨fun hgt => fail s.up1 (by rw [ht, if_pos ⟨e5, by omega⟩]), fun hle => ?_⟩
        refine br_no (by rw [e5]; rfl) ⟨rfl, by omega, by omega⟩
      · rw [br_beq]
        refine ⟨fun e8 => ?_, fun e8 => ⟨rfl, by omega, by omega⟩⟩
        rw [br_decide]
        refine ⟨fun hgt => fail s.up1 (by rw [ht, if_neg (by omega), if_pos ⟨e8, .inl (by omega)⟩]), fun hle => ?_⟩
        rw [br_decide]
        exact ⟨fun hgt => fail s.up1 (by rw [ht, if_neg (by omega), if_pos ⟨e8, .inr (by omega)⟩]), fun hle2 => ⟨rfl, by omega, by omega⟩⟩
    rintro _ h43 ⟨rfl, hn5, hn8'⟩
    rw [if_neg hn5, if_neg hn8'] at ht
    rw [br_beq]
    refine ⟨fun e7 => ?_, fun e7 => ?_⟩
    · rw [if_pos e7] at ht
      have en : needK k = 2 := by rw [e7]; rfl
      rw [en] at ht hge hv8 ⊢
      have hl2 : 2 ≤ l := by omega
      have ew2 : IntKind.wrap .u64 (IntKind.wrap .i64 ((l : Int) - 2)) = ((l - 2 : Nat) : Int) := by
        rw [wrap_i64 (by omega) (by omega), wrap_u64]; omega
      rw [ew2, br_decide]
      refine ⟨fun hgt => fail s.up1 (by rw [ht, if_pos (.inl (by omega))]), fun hle => ?_⟩
      rw [br_decide]
      refine ⟨fun hgt => fail s.up1 (by rw [ht, if_pos (.inr (.inl (by omega)))]), fun hle2 => ?_⟩
      rw [br_decide]
      refine ⟨fun hgt => fail s.up1 (by rw [ht, if_pos (.inr (.inr (by omega)))]), fun hle3 => ?_⟩
      rw [if_neg (by omega)] at ht
      have ew3 : IntKind.wrap .u64 (2 + ((valB (bs.take 2) : Nat) : Int)) = ((2 + valB (bs.take 2) : Nat) : Int) := by rw [wrap_u64]; omega
      rw [ew3]
      refine sliceP_mid (n := 2) (l := l) (by omega) (by omega) hc (s.store0 (by simp) rfl fun h53 s => ⟨_, s.row0 rfl, sliceP_from (by omega) hc ?_⟩)
      have hmid := Bs.mid (m := 2 + valB (bs.take 2)) (n := 2) hb (by omega) (by omega) hc
      rw [Nat.add_sub_cancel_left] at hmid
      rw [show 2 + valB (bs.take 2) - 2 = valB (bs.take 2) by omega]
      exact fin (x := 0) s.up1 ht hmid (Bs.rest hb (by omega) hc) (by omega) (by omega)
    · rw [if_neg e7] at ht
      refine s.store0 (by simp) rfl fun h60 s => ⟨_, s.row0 rfl, sliceP_from (by omega) hc ?_⟩
      exact fin s.up1 ht ⟨rfl, Rd.nil _ _⟩ (Bs.rest hb (by omega) hc) (by omega) (by omega)

theorem takeW_most {bs : List UInt8} {f : Bool} {k : Int} {x : Nat} (hs : x ≤ 4611686018427387904 ∨ k = 4) : takeW bs f k (IntKind.wrap .i64 (x : Int)) = takeW bs f k x := by
  rcases hs with h | h
  · rw [wrap_i64 (by omega) (by omega)]
  · subst h; rfl
theorem takeW_rest {bs : List UInt8} {k : Int} {x : Int} : (takeW bs false k x).2.2.1.length ≤ bs.length := by
  unfold takeW
  repeat' split
  all_goals simp only [numR, flagR, takeR, strR, countR]
  all_goals first
    | (split <;> simp; done)
    | (split <;> simp <;> omega)
    | simp

theorem wireReads_ok {h : Heap} {p q : Option Addr} {l c m d : Nat} {bs : List UInt8} {fs : List Fld} (hb : Bs h p l bs) (hc : l ≤ c) (hcm : c ≤ maxLen) (hf : Flds h q m fs) :
    CallsH Try.prog n_law01_WireReads #[.slice p l c, .slice q m d] h fun v h' => v = .bool true ∧ Ext h h' := by
  refine C_law01_WireReads p l c q m d ?_
  unfold F_law01_WireReads
  have hfl := hf.len
  refine ⟨fun _ h' => FewP fs 60 ∧ SmallP fs ∧ l ≤ 9000 ∧ St h h' [], ?_, ?_⟩
  · refine awake_br (St.start h) fun h1 s => ?_
    refine (few_ok (hf.ext s.ext) 60 (by omega)).mono fun v h7 ⟨⟨t, hv, ht⟩, hh⟩ => ?_
    subst hh
    refine ⟨Ext.refl _, t, hv, ?_⟩
    cases t
    · exact br_yes rfl (awake_end s)
    have hfew := ht rfl
    have hm60 := hfew.1
    refine br_no rfl ((small_ok (hf.ext s.ext) (by omega)).mono fun v h13 ⟨⟨t, hv, ht⟩, hh⟩ => ?_)
    subst hh
    refine ⟨Ext.refl _, t, hv, ?_⟩
    cases t
    · exact br_yes rfl (awake_end s)
    refine br_no rfl ?_
    rw [br_decide]
    exact ⟨fun _ => awake_end s, fun hle => ⟨hfew, ht rfl, by omega, s⟩⟩
  intro _ h23 ⟨hfew, hsm, hl9, s⟩
  have hm60 := hfew.1
  refine (new_ok (hb.ext s.ext) (by omega)).mono fun v h25 ⟨b, hv, n⟩ => ⟨n.ext, _, hv, ?_⟩
  have s := s.join n
  refine ⟨fun t h' => ∃ k : Nat, t.2.2 = k ∧ k ≤ m ∧ ∃ xs, Bs h t.1.1 t.1.2.1 xs ∧ t.1.2.1 ≤ t.1.2.2 ∧ t.1.2.2 ≤ maxLen ∧ xs.length ≤ 9000 ∧ St h h' [W b xs t.2.1], fun t _ => m - t.2.2.toNat, ⟨0, rfl, by omega, bs, hb, hc, hcm, by have := hb.1; omega, s⟩, ?_⟩
  rintro ⟨⟨p, l, c⟩, fails, i⟩ h30 ⟨k, hi, hk, xs, hb, hc, hcm, hxl, s⟩
  simp only at hi hb hc hcm s ⊢
  subst hi
  rw [br_decide]
  refine ⟨fun hlt => ⟨by omega, hlt, ?_⟩, fun hge => ⟨by trivial, s.ext⟩⟩
  obtain ⟨b0, o, q', l', c', h2, e, _, _, _, _, _, _, hx, hk1, hk2, g3⟩ := (hf.ext s.ext).get (i := k) (by omega)
  subst e
  simp only [deref_some, Int.toNat_natCast, add_mk, Nat.add_zero, Nat.zero_add]
  have ei : IntKind.wrap .i64 ((k : Int) + 1) = ((k + 1 : Nat) : Int) := by rw [wrap_i64 (by omega) (by omega)]; omega
  have hμ : m - ((k + 1 : Nat) : Int).toNat < m - k := by omega
  rw [ei]
  have o3 : ∀ {k x : Int} {q : Option Addr} {l c : Nat}, one #[Value.int .i64 k, .int .u64 x, .slice q l c] := fun v hv => by simp at hv; rcases hv with rfl | rfl | rfl <;> rfl
  refine ⟨_, g3, s.newBlk fun b33 h34 _ s _ => s.storeAll rfl rfl o3 fun h35 s => ?_⟩
  have hsm' := hsm _ (List.getElem_mem h2)
  generalize fs[k].k = K at hsm' hk1 hk2 s ⊢
  generalize fs[k].x = X at hsm' hx s ⊢
  refine ⟨fun _ h' => 1 ≤ K ∧ K ≤ 8 ∧ St h h' [pts b33 0 false [.int .i64 K, .int .u64 (X : Int), .slice q' l' c'], W b xs fails], ⟨K, s.cell0 rfl, ?_⟩, ?_⟩
  · rw [br_decide]
    refine ⟨fun hlt => ⟨⟨k + 1, rfl, by omega, xs, hb, hc, hcm, hxl, s.drop⟩, hμ⟩, fun hge => ⟨K, s.cell0 rfl, ?_⟩⟩
    rw [br_decide]
    exact ⟨fun hgt => ⟨⟨k + 1, rfl, by omega, xs, hb, hc, hcm, hxl, s.drop⟩, hμ⟩, fun hle => ⟨by omega, by omega, s⟩⟩
  intro _ h40 ⟨k1, k8, s⟩
  refine ⟨K, s.cell0 rfl, (X : Int), s.cell0 rfl, (take_ok s.up1 K X).mono fun v h44 ⟨p1, l1, c1, hv, s⟩ => ⟨_, rfl, hv, ?_⟩⟩
  rw [takeW_most hsm'] at s ⊢
  refine s.newBlk fun b46 h47 _ s _ => s.storeAll rfl rfl o3 fun h48 s => ⟨K, s.up3.cell0 rfl, (X : Int), s.up3.cell0 rfl, ?_⟩
  refine (rtake_ok s.ext hb hc hcm k1 k8 (Int.natCast_nonneg X)).mono fun v h52 ⟨⟨k', p2, l2, c2, p3, l3, c3, hv, g1, g2, g4, g5⟩, e52⟩ => ⟨e52, _, rfl, p3, l3, c3, _, hv, ?_⟩
  have s := s.keep e52
  refine s.newBlk fun b58 h59 _ s _ => s.storeAll rfl rfl o3 fun h60 s => ?_
  have hfal : fails = true ∨ (takeW xs false K (X : Int)).2.2.2 = true → takeW xs fails K (X : Int) = bad xs := by
    rintro (h | h)
    · subst h; exact takeW_true _ _ k1 k8
    · cases fails
      · exact takeW_fail _ _ k1 k8 h
      · exact takeW_true _ _ k1 k8
  have hrest := takeW_rest (bs := xs) (k := K) (x := X)
  refine ⟨fun t h' => ∃ x y1 y2 ys q1 m1 d1 q2 m2 d2 zs, Bs h t.1.1 t.1.2.1 zs ∧ t.1.2.1 ≤ t.1.2.2 ∧ t.1.2.2 ≤ maxLen ∧ zs.length ≤ 9000 ∧ Bs h q2 m2 ys ∧ ys.length ≤ 9000 ∧
    St h h' [pts b58 0 false [.int .i64 y1, .int .u64 x, .slice q2 m2 d2], pts b46 0 false [.int .i64 y2, .int .u64 x, .slice q1 m1 d1], W b zs t.2, own 1 q1 m1 d1 (bcs ys)], ?_, ?_⟩
  · have hbad : takeW xs fails K (X : Int) = bad xs → storeP (some 3) h60 (Addr.mk b58 0 none) (.agg #[.int .i64 0, .int .u64 0, .slice none 0 0]) fun h62 => ∃ x y1 y2 ys q1 m1 d1 q2 m2 d2 zs, Bs h p l zs ∧ l ≤ c ∧ c ≤ maxLen ∧ zs.length ≤ 9000 ∧ Bs h q2 m2 ys ∧ ys.length ≤ 9000 ∧
        St h h62 [pts b58 0 false [.int .i64 y1, .int .u64 x, .slice q2 m2 d2], pts b46 0 false [.int .i64 y2, .int .u64 x, .slice q1 m1 d1], W b zs true, own 1 q1 m1 d1 (bcs ys)] := by
      intro ht
      rw [ht] at s
      exact s.storeAll rfl rfl o3 fun h62 s => ⟨0, 0, K, [], p1, l1, c1, none, 0, 0, xs, hb, hc, hcm, hxl, ⟨rfl, Rd.nil _ _⟩, by simp, s.up4.drop⟩
    cases hf' : fails
    · refine br_no rfl ?_
      cases ht : (takeW xs false K (X : Int)).2.2.2
      · refine br_no rfl ⟨((takeW xs false K (X : Int)).1 : Int), k', K, (takeW xs false K (X : Int)).2.1, p1, l1, c1, p2, l2, c2, (takeW xs false K (X : Int)).2.2.1, g2, g4, g5, by omega, g1, ?_, ?_⟩
        · have hys : (takeW xs false K (X : Int)).2.1.length ≤ xs.length := by
            unfold takeW
            repeat' split
            all_goals try simp only [takeR, strR]
            all_goals first
              | (split <;> simp; done)
              | (split <;> simp <;> omega)
              | simp
          omega
        · rw [hf', ht] at s
          exact s.up4.drop
      · exact br_yes rfl (hbad (hfal (.inr ht)))
    · exact br_yes rfl (hbad (hfal (.inl hf')))
  rintro ⟨⟨p4, l4, c4⟩, f2⟩ h65 ⟨x, y1, y2, ys, q1, m1, d1, q2, m2, d2, zs, j1, j2, j3, j4, j5, j6, s⟩
  simp only at j1 j2 s ⊢
  have j1l := j1.1
  refine ⟨x, s.up1.cell0 rfl, x, s.cell0 rfl, br_no (by simp) ⟨q1, m1, d1, s.up1.cell0 rfl, q2, m2, d2, s.cell0 rfl, ?_⟩⟩
  have b1 := bs_own (c := d1) s.up3.at
  refine (same_ok b1 (j5.ext s.ext) (by have := b1.1; omega)).mono fun v h75 ⟨hv, hh⟩ => ?_
  subst hh
  refine ⟨Ext.refl _, _, hv, br_no (by simp) ((fails_ok s.up2.at).mono fun v h78 ⟨hv, hh⟩ => ?_)⟩
  subst hh
  refine ⟨Ext.refl _, _, hv, br_no (by simp) ((left_ok s.up2.at).mono fun v h81 ⟨hv, hh⟩ => ?_)⟩
  subst hh
  refine ⟨Ext.refl _, _, hv, br_no (by simp [j1l]) ((done_ok s.up2.at).mono fun v h84 ⟨hv, hh⟩ => ?_)⟩
  subst hh
  refine ⟨Ext.refl _, _, hv, ?_⟩
  have fin : (∃ k' : Nat, ((k + 1 : Nat) : Int) = k' ∧ k' ≤ m ∧ ∃ xs, Bs h p4 l4 xs ∧ l4 ≤ c4 ∧ c4 ≤ maxLen ∧ xs.length ≤ 9000 ∧ St h h84 [W b xs f2]) ∧ m - ((k + 1 : Nat) : Int).toNat < m - k :=
    ⟨⟨k + 1, rfl, by omega, zs, j1, j2, j3, j4, s.drop.drop.up1.drop⟩, hμ⟩
  cases f2
  · refine br_yes rfl (br_no ?_ fin)
    rw [Bool.not_eq_false', beq_iff_eq, Bool.eq_iff_iff, decide_eq_true_iff, beq_iff_eq]
    constructor
    · rintro ⟨_, rfl⟩
      simp at j1l
      omega
    · intro e; exact ⟨rfl, List.eq_nil_of_length_eq_zero (by omega)⟩
  · exact br_no rfl (br_no (by simp) fin)

/- ### What is written is read -/
theorem foldl_valB : ∀ (bs : List UInt8) (a : Nat), bs.foldl (fun x b => x * 256 + b.toNat) a = a * 256 ^ bs.length + valB bs
  | [], a => by simp [valB]
  | b :: bs, a => by
    have h1 := foldl_valB bs (a * 256 + b.toNat)
    have h2 := foldl_valB bs (0 * 256 + b.toNat)
    have h3 : valB (b :: bs) = (0 * 256 + b.toNat) * 256 ^ bs.length + valB bs := h2
    rw [List.foldl_cons, h1, h3, List.length_cons, Nat.pow_succ, Nat.add_mul, Nat.zero_mul, Nat.zero_add, Nat.mul_assoc, Nat.mul_comm 256 (256 ^ bs.length), Nat.add_assoc]
theorem valB_numB (x : Nat) : ∀ n, valB (numB x n) = x % 256 ^ n
  | 0 => by simp [numB, valB, Nat.mod_one]
  | n + 1 => by
    have h : valB (numB x (n + 1)) = (0 * 256 + (dg x n).toNat) * 256 ^ (numB x n).length + valB (numB x n) := foldl_valB (numB x n) _
    have hm : x % 256 ^ (n + 1) = x % 256 ^ n + 256 ^ n * (x / 256 ^ n % 256) := Nat.mod_pow_succ
    have hd : (dg x n).toNat = x / 256 ^ n % 256 := by rw [dg, UInt8.toNat_ofNat']
    rw [h, numB_length, valB_numB x n, Nat.zero_mul, Nat.zero_add, hd, hm, Nat.mul_comm, Nat.add_comm]
theorem take_num (x n : Nat) (rest : List UInt8) : (numB x n ++ rest).take n = numB x n := by rw [List.take_append_of_le_length (by rw [numB_length]; exact Nat.le_refl _), List.take_of_length_le (by rw [numB_length]; exact Nat.le_refl _)]
theorem drop_num (x n : Nat) (rest : List UInt8) : (numB x n ++ rest).drop n = rest := by rw [List.drop_append, List.drop_of_length_le (by rw [numB_length]; exact Nat.le_refl _), numB_length, Nat.sub_self]; rfl
theorem numR_num {x n : Nat} (hx : x < 256 ^ n) (rest : List UInt8) : numR (numB x n ++ rest) false n = (x, rest, false) := by
  rw [numR, if_pos ⟨rfl, by rw [List.length_append, numB_length]; omega⟩, take_num, drop_num, valB_numB, Nat.mod_eq_of_lt hx]
def mostK (f : Fld) : Int := if f.k = 6 then (f.b.length : Int) else 9000
def wantK (f : Fld) : Nat := if f.k = 3 then f.x % 4294967296 else if f.k = 5 then f.x % 2 else f.x
theorem back {f : Fld} (hok : (bytesF f).2 = true) (hx : f.x < 18446744073709551616) (hb : f.b.length ≤ 9000) (rest : List UInt8) :
    (takeW ((bytesF f).1 ++ rest) false f.k (mostK f)).2.2 = (rest, false) ∧ (0 < sizeK f.k → (takeW ((bytesF f).1 ++ rest) false f.k (mostK f)).1 = wantK f) ∧ ((f.k = 6 ∨ f.k = 7) → (takeW ((bytesF f).1 ++ rest) false f.k (mostK f)).2.1 = f.b) := by
  unfold bytesF at hok ⊢
  unfold takeW wantK
  by_cases e1 : f.k = 1
  · simp only [if_pos e1, decide_eq_true_iff] at hok ⊢
    rw [numR_num (by omega), if_neg (by omega), if_neg (by omega)]
    exact ⟨rfl, fun _ => rfl, fun h => by omega⟩
  simp only [if_neg e1] at hok ⊢
  by_cases e2 : f.k = 2
  · simp only [if_pos e2, decide_eq_true_iff] at hok ⊢
    rw [numR_num (by omega), if_neg (by omega), if_neg (by omega)]
    exact ⟨rfl, fun _ => rfl, fun h => by omega⟩
  simp only [if_neg e2] at hok ⊢
  by_cases e3 : f.k = 3
  · simp only [if_pos e3]
    rw [numR_num (by omega)]
    exact ⟨rfl, fun _ => rfl, fun h => by omega⟩
  simp only [if_neg e3] at hok ⊢
  by_cases e4 : f.k = 4
  · simp only [if_pos e4]
    rw [numR_num (by omega), if_neg (by omega)]
    exact ⟨rfl, fun _ => rfl, fun h => by omega⟩
  simp only [if_neg e4] at hok ⊢
  by_cases e5 : f.k = 5
  · simp only [if_pos e5]
    have hv : valB ((numB (f.x % 2) 1 ++ rest).take 1) = f.x % 2 := by
      rw [take_num, valB_numB, Nat.mod_eq_of_lt (by omega)]
    have hd := drop_num (f.x % 2) 1 rest
    rw [flagR, if_pos ⟨rfl, by simp [numB_length], by omega⟩, hv, hd]
    refine ⟨rfl, fun _ => ?_, fun h => by omega⟩
    by_cases h1 : f.x % 2 = 1
    · rw [if_pos (by simpa using h1), h1]
    · rw [if_neg (by simpa using h1)]; omega
  simp only [if_neg e5] at hok ⊢
  by_cases e6 : f.k = 6
  · simp only [if_pos e6]
    have hm : mostK f = (f.b.length : Int) := by rw [mostK, if_pos e6]
    rw [hm, takeR, if_pos ⟨rfl, by omega, by rw [List.length_append]; omega⟩]
    refine ⟨by simp, fun h => ?_, fun _ => by simp⟩
    rw [sizeK] at h
    rw [if_neg (by omega), if_neg (by omega), if_neg (by omega), if_neg (by omega)] at h
    omega
  simp only [if_neg e6] at hok ⊢
  have hm : mostK f = 9000 := by rw [mostK, if_neg e6]
  rw [hm]
  by_cases e7 : f.k = 7
  · simp only [if_pos e7] at hok ⊢
    by_cases h8 : 8192 < f.b.length
    · rw [if_pos h8] at hok; cases hok
    rw [if_neg h8]
    simp only [List.append_assoc]
    have hv : valB ((numB f.b.length 2 ++ (f.b ++ rest)).take 2) = f.b.length := by
      rw [take_num, valB_numB, Nat.mod_eq_of_lt (by omega)]
    have hd := drop_num f.b.length 2 (f.b ++ rest)
    rw [strR, if_pos ⟨rfl, by simp [numB_length], by rw [hv]; omega, by rw [hv]; omega, by rw [hv]; simp [numB_length]; omega⟩, hv, ← List.drop_drop, hd]
    refine ⟨by simp, fun h => ?_, fun _ => by simp⟩
    rw [sizeK] at h
    rw [if_neg (by omega), if_neg (by omega), if_neg (by omega), if_neg (by omega)] at h
    omega
  simp only [if_neg e7] at hok ⊢
  by_cases e8 : f.k = 8
  · simp only [if_pos e8, decide_eq_true_iff] at hok ⊢
    have hv : valB ((numB f.x 2 ++ rest).take 2) = f.x := by
      rw [take_num, valB_numB, Nat.mod_eq_of_lt (by omega)]
    have hd := drop_num f.x 2 rest
    rw [countR, if_pos ⟨rfl, by simp [numB_length], by rw [hv]; omega, by rw [hv]; omega⟩, hv, hd]
    exact ⟨rfl, fun _ => rfl, fun h => by omega⟩
  simp only [if_neg e8]
  refine ⟨rfl, fun h => ?_, fun h => by omega⟩
  rw [sizeK] at h
  rw [if_neg (by omega), if_neg (by omega), if_neg (by omega), if_neg (by omega)] at h
  omega

/-- The loop that writes all fields. -/
theorem write_loop {h0 h : Heap} {b : Nat} {p : Option Addr} {l : Nat} {fs : List Fld} (hf : Flds h0 p l fs) (hfew : FewP fs 60) (hsm : SmallP fs) (hs : St h0 h [W b [] false])
    {E : Heap → Prop} (hE : ∀ h' bs, (allOk fs = true → bs = allB fs) → bs.length ≤ 9002 * 60 → St h0 h' [W b bs (!allOk fs)] → E h') :
    ∃ (I : Int → Heap → Prop) (μ : Int → Heap → Nat), I 0 h ∧ ∀ n h', I n h' → br (decide (n < (l : Int)))
      (0 ≤ n ∧ n < (l : Int) ∧ deref p fun a => ∃ cs : Array Value, row h' (Addr.add a (Int.toNat n * 3)) 3 = some cs ∧
        CallsH Try.prog n_law01_put #[Value.pointer (some (Addr.mk b 0 none)), Value.agg cs] h' fun v h'' => v = Value.tuple #[] ∧ I (IntKind.wrap .i64 (n + 1)) h'' ∧ μ (IntKind.wrap .i64 (n + 1)) h'' < μ n h') (E h') := by
  have hl := hf.len
  have hl60 := hfew.1
  refine ⟨fun i h' => ∃ k : Nat, i = k ∧ k ≤ l ∧ ∃ bs, (allOk (fs.take k) = true → bs = allB (fs.take k)) ∧ bs.length ≤ 9002 * k ∧ St h0 h' [W b bs (!allOk (fs.take k))], fun i _ => l - i.toNat, ⟨0, rfl, by omega, [], fun _ => rfl, by simp, hs⟩, ?_⟩
  intro i h23 hI
  obtain ⟨k, hi, hk, bs, hbs, hlen, s⟩ := hI
  subst hi
  rw [br_decide]
  refine ⟨fun hlt => ⟨by omega, hlt, ?_⟩, fun hge => ?_⟩
  · obtain ⟨b0, o, q, l', c', h2, e, _, _, g2, _, _, hb0, hx, _⟩ := hf.get (i := k) (by omega)
    obtain ⟨_, _, _, _, _, _, e', _, _, g2', _, _, _, _, _, _, g3'⟩ := (hf.ext s.ext).get (i := k) (by omega)
    subst e
    cases e'
    have hsame := s.ext.cell g2
    rw [hsame] at g2'
    cases g2'
    simp only [deref_some, Int.toNat_natCast, add_mk]
    have hfb := hfew.2 _ (List.getElem_mem h2)
    refine ⟨_, g3', (put_ok s hb0 hx hfb (by omega)).mono fun v h27 hp => ⟨hp.1, ?_⟩⟩
    rw [wrap_i64 (by omega) (by omega)]
    have hup := hp.upd
    have hpl := putS_len (bs := bs) (sp := !allOk (fs.take k)) hfb
    have hps := putF_small (hsm _ (List.getElem_mem h2))
    have ht := allOk_take (fs := fs) (k := k) (by omega)
    refine ⟨⟨k + 1, by omega, by omega, (putS bs (!allOk (fs.take k)) (putF fs[k])).1, ?_, by omega, ?_⟩, by show l - ((k : Int) + 1).toNat < l - (k : Int).toNat; omega⟩
    · intro hok
      rw [ht, Bool.and_eq_true] at hok
      rw [hps, hok.1, hok.2, allB_take (by omega), hbs hok.1]
      rfl
    · have e : (putS bs (!allOk (fs.take k)) (putF fs[k])).2 = !allOk (fs.take (k + 1)) := by
        rw [ht, hps]
        cases allOk (fs.take k) <;> cases (bytesF fs[k]).2 <;> rfl
      rw [← e]; exact hup
  · have : k = l := by omega
    subst this
    rw [List.take_of_length_le (by omega)] at hbs s
    exact hE h23 bs hbs (by omega) s
theorem allB_drop {fs : List Fld} {k : Nat} (hk : k < fs.length) : allB (fs.drop k) = (bytesF fs[k]).1 ++ allB (fs.drop (k + 1)) := by
  unfold allB
  rw [List.drop_eq_getElem_cons hk, List.flatMap_cons]
theorem allOk_get {fs : List Fld} (h : allOk fs = true) {k : Nat} (hk : k < fs.length) : (bytesF fs[k]).2 = true := by
  unfold allOk at h
  exact List.all_eq_true.1 h _ (List.getElem_mem hk)
theorem wireBack_ok {h : Heap} {p : Option Addr} {l c : Nat} {fs : List Fld} (hf : Flds h p l fs) :
    CallsH Try.prog n_law01_WireBack #[.slice p l c] h fun v h' => v = .bool true ∧ Ext h h' := by
  refine C_law01_WireBack p l c ?_
  unfold F_law01_WireBack
  have hfl := hf.len
  refine ⟨fun _ h' => FewP fs 60 ∧ SmallP fs ∧ St h h' [], ?_, ?_⟩
  · refine awake_br (St.start h) fun h1 s => ?_
    refine (few_ok (hf.ext s.ext) 60 (by omega)).mono fun v h7 ⟨⟨t, hv, ht⟩, hh⟩ => ?_
    subst hh
    refine ⟨Ext.refl _, t, hv, ?_⟩
    cases t
    · exact br_yes rfl (awake_end s)
    have hfew := ht rfl
    have hm60 := hfew.1
    refine br_no rfl ((small_ok (hf.ext s.ext) (by omega)).mono fun v h13 ⟨⟨t, hv, ht⟩, hh⟩ => ?_)
    subst hh
    refine ⟨Ext.refl _, t, hv, ?_⟩
    cases t
    · exact br_yes rfl (awake_end s)
    exact br_no rfl ⟨hfew, ht rfl, s⟩
  intro _ h20 ⟨hfew, hsm, s⟩
  have hm60 := hfew.1
  refine s.newBlk fun b h22 _ s _ => ⟨fun _ h' => ∃ bs, (allOk fs = true → bs = allB fs) ∧ bs.length ≤ 9002 * 60 ∧ St h h' [W b bs (!allOk fs)], ?_, ?_⟩
  · exact write_loop hf hfew hsm (W.mk s) fun h' bs h1 h2 h3 => ⟨bs, h1, h2, h3⟩
  intro _ h33 ⟨bs, hbs, hbl, s⟩
  refine (out_ok s.at (by omega)).mono fun v h35 ⟨p36, l37, c38, hv, n⟩ => ⟨n.ext, p36, l37, c38, _, hv, ?_⟩
  have s := s.join n
  have b1 := bs_own (c := c38) s.at
  have b1l := b1.1
  refine ⟨fun _ h' => h' = h35 ∧ allOk fs = true, ?_, ?_⟩
  · cases hok : allOk fs
    · refine br_yes (by simp) ⟨?_, s.ext⟩
      rw [hok] at b1l
      simp at b1l
      subst b1l
      rfl
    · exact br_no (by simp) ⟨rfl, rfl⟩
  rintro _ h42 ⟨rfl, hok⟩
  rw [hbs hok] at b1
  simp only [hok, Bool.not_true] at b1
  have b1l := b1.1
  simp only [Bool.false_eq_true, if_false] at b1 b1l
  have hlen : (allB fs).length ≤ 9002 * 60 := by rw [← hbs hok]; exact hbl
  refine (new_ok b1 (by omega)).mono fun v h44 ⟨rb, hv, n2⟩ => ⟨n2.ext, _, hv, ?_⟩
  have s : St h h44 [W rb (allB fs) false] := by
    have := s.join n2
    exact this.up1.drop.up1.drop
  refine ⟨fun i h' => ∃ k : Nat, i = k ∧ k ≤ l ∧ St h h' [W rb (allB (fs.drop k)) false], fun i _ => l - i.toNat, ⟨0, rfl, by omega, s⟩, ?_⟩
  intro i h49 hI
  obtain ⟨k, hi, hk, s⟩ := hI
  subst hi
  rw [br_decide]
  refine ⟨fun hlt => ?_, fun hge => ?_⟩
  · have h2 : k < fs.length := by omega
    -- what is read of the field, again and again
    obtain ⟨b0, o, q, l', c', _, e, g0, g1, g2, _, _, hb0, hx, _⟩ := hf.get (i := k) (by omega)
    subst e
    simp only [deref_some, Int.toNat_natCast, add_mk, Nat.add_zero, Nat.zero_add]
    have hfb := hfew.2 _ (List.getElem_mem h2)
    have hbl := hb0.1
    have hbk := back (f := fs[k]) (allOk_get hok h2) hx hfb (allB (fs.drop (k + 1)))
    rw [← allB_drop h2] at hbk
    have ei : IntKind.wrap .i64 ((k : Int) + 1) = ((k + 1 : Nat) : Int) := by rw [wrap_i64 (by omega) (by omega)]; omega
    have hμ : l - ((k + 1 : Nat) : Int).toNat < l - k := by omega
    rw [ei]
    generalize hK : fs[k].k = K at g0
    generalize hX : fs[k].x = X at g1
    have kk : ∀ {h9 : Heap}, Ext h h9 → cell h9 (Addr.mk b0 (o + k * 3) none) = some (.int .i64 K) := fun e => e.cell g0
    have kx : ∀ {h9 : Heap}, Ext h h9 → cell h9 (Addr.mk b0 (o + k * 3 + 1) none) = some (.int .u64 (X : Int)) := fun e => e.cell g1
    have ks : ∀ {h9 : Heap}, Ext h h9 → cell h9 (Addr.mk b0 (o + k * 3 + 2) none) = some (.slice q l' c') := fun e => e.cell g2
    refine ⟨fun m h' => m = mostK fs[k] ∧ h' = h49, ⟨by omega, by omega, K, kk s.ext, ?_⟩, ?_⟩
    · rw [br_beq]
      refine ⟨fun e6 => ⟨by omega, by omega, q, l', c', ks s.ext, ?_, rfl⟩, fun e6 => ⟨?_, rfl⟩⟩
      · rw [mostK, if_pos (hK.trans e6), wrap_u64]; omega
      · rw [mostK, if_neg (fun e => e6 (hK.symm.trans e))]
    rintro m h58 ⟨rfl, rfl⟩
    refine ⟨by omega, by omega, K, kk s.ext, ?_⟩
    have hmost : IntKind.wrap .i64 (mostK fs[k]) = mostK fs[k] := by
      unfold mostK
      split
      · rw [wrap_i64 (by omega) (by omega)]
      · rw [wrap_i64 (by omega) (by omega)]
    rw [hK] at hbk
    refine (take_ok s K (mostK fs[k])).mono fun v h62 ⟨p1, l1, c1, hv, s⟩ => ⟨_, rfl, hv, ?_⟩
    rw [hmost] at s ⊢
    generalize takeW (allB (fs.drop k)) false K (mostK fs[k]) = t at hbk s ⊢
    obtain ⟨k1, k2, k3⟩ := hbk
    have e1 : t.2.2.1 = allB (fs.drop (k + 1)) := by rw [k1]
    have e2 : t.2.2.2 = false := by rw [k1]
    rw [e1, e2] at s
    have o3 : ∀ {k x : Int} {q : Option Addr} {l c : Nat}, one #[Value.int .i64 k, .int .u64 x, .slice q l c] := fun v hv => by simp at hv; rcases hv with rfl | rfl | rfl <;> rfl
    refine s.newBlk fun b64 h65 _ s _ => s.storeAll rfl rfl o3 fun h66 s => ⟨by omega, by omega, _, kx s.ext, ?_⟩
    refine ⟨fun n h' => n = ((if K = 3 then X % 4294967296 else X : Nat) : Int) ∧ h' = h66, ⟨by omega, by omega, K, kk s.ext, ?_⟩, ?_⟩
    · rw [br_beq]
      refine ⟨fun e3 => ⟨by omega, ?_, rfl⟩, fun e3 => ⟨by rw [if_neg e3], rfl⟩⟩
      rw [if_pos e3]; rfl
    rintro n h73 ⟨rfl, rfl⟩
    refine ⟨fun n h' => n = (wantK fs[k] : Int) ∧ h' = h73, ⟨by omega, by omega, K, kk s.ext, ?_⟩, ?_⟩
    · rw [br_beq]
      refine ⟨fun e5 => ⟨by omega, ?_, rfl⟩, fun e5 => ⟨?_, rfl⟩⟩
      · rw [if_neg (by omega), wantK, hK, hX, if_neg (by omega), if_pos e5]; rfl
      · rw [wantK, hK, hX]
        by_cases e3 : K = 3
        · rw [if_pos e3, if_pos e3]
        · rw [if_neg e3, if_neg e3, if_neg e5]
    rintro n h78 ⟨rfl, rfl⟩
    refine ⟨by omega, by omega, K, kk s.ext, (size_ok K).mono fun v h82 ⟨hv, hh⟩ => ?_⟩
    subst hh
    refine ⟨Ext.refl _, _, hv, ?_⟩
    have next : ∀ {h9 : Heap}, h9 = h82 → (∃ j : Nat, ((k + 1 : Nat) : Int) = j ∧ j ≤ l ∧ St h h9 [W rb (allB (fs.drop j)) false]) ∧ l - ((k + 1 : Nat) : Int).toNat < l - k := by
      intro h9 hh
      subst hh
      exact ⟨⟨k + 1, rfl, by omega, s.up1.up2.drop.up1.drop⟩, hμ⟩
    have same : (K = 6 ∨ K = 7) → CallsH Try.prog n_ref01_Same #[.slice p1 l1 c1, .slice q l' c'] h82 fun v h9 => Ext h82 h9 ∧ ∃ t, v = .bool t ∧ br (!t) (Value.bool false = .bool true ∧ Ext h h9)
        ((∃ j : Nat, ((k + 1 : Nat) : Int) = j ∧ j ≤ l ∧ St h h9 [W rb (allB (fs.drop j)) false]) ∧ l - ((k + 1 : Nat) : Int).toNat < l - k) := by
      intro hk67
      have b2 := bs_own (c := c1) s.up2.at
      rw [k3 hk67] at b2
      refine (same_ok b2 (hb0.ext s.ext) (by have := b2.1; omega)).mono fun v h9 ⟨hv, hh⟩ => ?_
      subst hh
      exact ⟨Ext.refl _, _, hv, br_no (by simp) (next rfl)⟩
    rw [br_decide]
    refine ⟨fun hpos => ⟨(t.1 : Int), s.cell0 rfl, ?_⟩, fun hz => ⟨by omega, by omega, K, kk s.ext, ?_⟩⟩
    · have ht := k2 (by omega)
      refine br_no (by rw [ht]; simp) ⟨by omega, by omega, K, kk s.ext, ?_⟩
      rw [br_beq]
      refine ⟨fun e6 => ⟨p1, l1, c1, s.cell0 rfl, by omega, by omega, q, l', c', ks s.ext, same (.inl e6)⟩, fun e6 => ⟨by omega, by omega, K, kk s.ext, ?_⟩⟩
      rw [br_beq]
      exact ⟨fun e7 => ⟨p1, l1, c1, s.cell0 rfl, by omega, by omega, q, l', c', ks s.ext, same (.inr e7)⟩, fun e7 => next rfl⟩
    · rw [br_beq]
      refine ⟨fun e6 => ⟨p1, l1, c1, s.cell0 rfl, by omega, by omega, q, l', c', ks s.ext, same (.inl e6)⟩, fun e6 => ⟨by omega, by omega, K, kk s.ext, ?_⟩⟩
      rw [br_beq]
      exact ⟨fun e7 => ⟨p1, l1, c1, s.cell0 rfl, by omega, by omega, q, l', c', ks s.ext, same (.inr e7)⟩, fun e7 => next rfl⟩
  · have hd : fs.drop k = [] := List.drop_of_length_le (by omega)
    rw [hd] at s
    refine (done_ok s.at).mono fun v h134 ⟨hv, hh⟩ => ?_
    subst hh
    refine ⟨Ext.refl _, _, hv, ?_, s.ext⟩
    simp [allB]
end Go.Proofs.Ytlalhdkehcldkaa
