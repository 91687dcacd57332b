/- Keys bit by bit: what the chapter on prefixes speaks of, in plain Lean; no program. -/
import Derived.Test.YtnaeicepapokjaaSq
set_option linter.unusedVariables false
namespace Go.Vc.Keys
open Go

def bit (ks : List UInt8) (i : Nat) : Bool := (ks.getD (i / 8) 0).toNat.testBit (7 - i % 8)
def bitI (ks : List UInt8) (i : Int) : Int := if 0 ≤ i ∧ i < 256 then (if bit ks i.toNat then 1 else 0) else 0
theorem ext {ks ls : List UInt8} (h1 : ks.length = 32) (h2 : ls.length = 32) (h : ∀ i, i < 256 → bit ks i = bit ls i) : ks = ls := by
  apply List.ext_getElem (by omega)
  intro j hj1 hj2
  apply UInt8.toNat_inj.1
  apply Nat.eq_of_testBit_eq
  intro t
  by_cases ht : t < 8
  · have := h (8 * j + (7 - t)) (by omega)
    unfold bit at this
    rw [show (8 * j + (7 - t)) / 8 = j by omega, show 7 - (8 * j + (7 - t)) % 8 = t by omega] at this
    simpa [List.getD_eq_getElem?_getD, hj1, hj2] using this
  · have hp : 2 ^ 8 ≤ 2 ^ t := Nat.pow_le_pow_right (by omega) (by omega)
    have a := u8_lt ks[j]
    have b := u8_lt ls[j]
    rw [Nat.testBit_lt_two_pow (by omega), Nat.testBit_lt_two_pow (by omega)]
/-- So many first bits are the same. -/
def Sh (a b : List UInt8) (n : Nat) : Prop := n ≤ 256 ∧ (∀ i, i < n → bit a i = bit b i) ∧ (n < 256 → bit a n ≠ bit b n)
theorem Sh.uniq {a b : List UInt8} {n m : Nat} (h : Sh a b n) (h' : Sh a b m) : n = m := by
  rcases Nat.lt_trichotomy n m with hl | hl | hl
  · exact ((h.2.2 (by have := h'.1; omega)) (h'.2.1 n hl)).elim
  · exact hl
  · exact ((h'.2.2 (by have := h.1; omega)) (h.2.1 m hl)).elim
theorem Sh.ge {a b : List UInt8} {n : Nat} (h : Sh a b n) {l : Int} (hl : l ≤ 256) : l ≤ (n : Int) ↔ ∀ i : Nat, i < 256 → (i : Int) < l → bit a i = bit b i := by
  constructor
  · intro hn i hi hil; exact h.2.1 i (by omega)
  · intro hall
    by_cases hn : l ≤ n
    · exact hn
    · exact ((h.2.2 (by omega)) (hall n (by omega) (by omega))).elim
theorem Sh.ex (a b : List UInt8) : ∃ n, Sh a b n := by
  have key : ∀ k, k ≤ 256 → (∀ i, i < k → bit a i = bit b i) ∨ ∃ n, Sh a b n := by
    intro k
    induction k with
    | zero => intro _; exact .inl fun i hi => by omega
    | succ k ih =>
      intro hk
      rcases ih (by omega) with h | h
      · by_cases he : bit a k = bit b k
        · exact .inl fun i hi => by
            by_cases hik : i = k
            · subst hik; exact he
            · exact h i (by omega)
        · exact .inr ⟨k, by omega, h, fun _ => he⟩
      · exact .inr h
  rcases key 256 (Nat.le_refl _) with h | h
  · exact ⟨256, Nat.le_refl _, h, fun hh => by omega⟩
  · exact h
def IsCut (ks : List UInt8) (n : Nat) (ls : List UInt8) : Prop := ls.length = 32 ∧ ∀ i, i < 256 → bit ls i = (bit ks i && decide (i < n))
theorem IsCut.uniq {ks ls ms : List UInt8} {n : Nat} (h : IsCut ks n ls) (h' : IsCut ks n ms) : ls = ms :=
  ext h.1 h'.1 fun i hi => (h.2 i hi).trans (h'.2 i hi).symm
def clampN (n : Int) : Nat := (min (max n 0) 256).toNat
def Formed (l : Int) (ks : List UInt8) : Prop := 0 ≤ l ∧ l ≤ 256 ∧ ∀ i : Nat, i < 256 → l ≤ (i : Int) → bit ks i = false
instance (l : Int) (ks : List UInt8) : Decidable (Formed l ks) := inferInstanceAs (Decidable (_ ∧ _ ∧ _))
theorem formed_cut {l : Int} {ks ls : List UInt8} (hk : ks.length = 32) (h0 : 0 ≤ l) (h1 : l ≤ 256) (hc : IsCut ks l.toNat ls) : ls = ks ↔ Formed l ks := by
  constructor
  · intro e
    subst e
    refine ⟨h0, h1, fun i hi hl => ?_⟩
    have := hc.2 i hi
    rw [this, show decide (i < l.toNat) = false by simp; omega, Bool.and_false]
  · intro hf
    refine ext hc.1 hk fun i hi => ?_
    rw [hc.2 i hi]
    by_cases hil : i < l.toNat
    · simp [hil]
    · rw [hf.2.2 i hi (by omega), Bool.false_and]
def Holds (l : Int) (ks k : List UInt8) : Prop := Formed l ks ∧ ∀ i : Nat, i < 256 → (i : Int) < l → bit ks i = bit k i
instance (l : Int) (ks k : List UInt8) : Decidable (Holds l ks k) := inferInstanceAs (Decidable (_ ∧ _))
theorem holds_cut {l : Int} {ks k ls : List UInt8} (hk : ks.length = 32) (hf : Formed l ks) (hc : IsCut k l.toNat ls) : ls = ks ↔ Holds l ks k := by
  constructor
  · intro e
    subst e
    refine ⟨hf, fun i hi hl => ?_⟩
    have := hf.1
    rw [hc.2 i hi, show decide (i < l.toNat) = true by simp; omega, Bool.and_true]
  · intro hh
    refine ext hc.1 hk fun i hi => ?_
    rw [hc.2 i hi]
    have := hf.1
    by_cases hil : i < l.toNat
    · rw [hh.2 i hi (by omega)]; simp [hil]
    · rw [hf.2.2 i hi (by omega)]; simp [hil]
def Within (l : Int) (p : List UInt8) (m : Int) (q : List UInt8) : Prop := Formed l p ∧ Formed m q ∧ l ≤ m ∧ ∀ i : Nat, i < 256 → (i : Int) < l → bit p i = bit q i
instance (l : Int) (p : List UInt8) (m : Int) (q : List UInt8) : Decidable (Within l p m q) := inferInstanceAs (Decidable (_ ∧ _ ∧ _ ∧ _))
def zeros : List UInt8 := List.replicate 32 0
theorem bit_zeros (i : Nat) : bit zeros i = false := by
  unfold bit zeros
  rw [List.getD_eq_getElem?_getD, List.getElem?_replicate]
  split <;> simp
def IsMeet (l : Int) (p : List UInt8) (m : Int) (q : List UInt8) (n : Int) (ls : List UInt8) : Prop :=
  if Formed l p ∧ Formed m q then ∃ s, Sh p q s ∧ n = min (min (s : Int) l) m ∧ IsCut p n.toNat ls else n = 0 ∧ ls = zeros
theorem IsMeet.uniq {l m n n' : Int} {p q ls ls' : List UInt8} (h : IsMeet l p m q n ls) (h' : IsMeet l p m q n' ls') : n = n' ∧ ls = ls' := by
  unfold IsMeet at h h'
  split at h
  · rename_i hc
    rw [if_pos hc] at h'
    obtain ⟨s, h1, h2, h3⟩ := h
    obtain ⟨s', h1', h2', h3'⟩ := h'
    have := h1.uniq h1'
    subst this
    have hn : n = n' := by rw [h2, h2']
    subst hn
    exact ⟨rfl, h3.uniq h3'⟩
  · rename_i hc
    rw [if_neg hc] at h'
    exact ⟨h.1.trans h'.1.symm, h.2.trans h'.2.symm⟩
def IsChild (l : Int) (p : List UInt8) (b : Int) (n : Int) (ls : List UInt8) (ok : Bool) : Prop :=
  if Formed l p ∧ l ≤ 255 ∧ (b = 0 ∨ b = 1) then ok = true ∧ n = l + 1 ∧ ls.length = 32 ∧ ∀ i : Nat, i < 256 → bit ls i = (bit p i || decide ((i : Int) = l ∧ b = 1)) else ok = false ∧ n = 0 ∧ ls = zeros
theorem IsChild.uniq {l b n n' : Int} {p ls ls' : List UInt8} {ok ok' : Bool} (h : IsChild l p b n ls ok) (h' : IsChild l p b n' ls' ok') : n = n' ∧ ls = ls' ∧ ok = ok' := by
  unfold IsChild at h h'
  split at h
  · rename_i hc
    rw [if_pos hc] at h'
    exact ⟨h.2.1.trans h'.2.1.symm, ext h.2.2.1 h'.2.2.1 fun i hi => (h.2.2.2 i hi).trans (h'.2.2.2 i hi).symm, h.1.trans h'.1.symm⟩
  · rename_i hc
    rw [if_neg hc] at h'
    exact ⟨h.2.1.trans h'.2.1.symm, h.2.2.trans h'.2.2.symm, h.1.trans h'.1.symm⟩
/-- At the first bit where they part, a has 0. -/
def Less (a b : List UInt8) : Prop := ∃ n, Sh a b n ∧ n < 256 ∧ bit a n = false
theorem less_iff {a b : List UInt8} {n : Nat} (h : Sh a b n) : Less a b ↔ n < 256 ∧ bit a n = false := by
  constructor
  · rintro ⟨m, h1, h2, h3⟩
    have := h.uniq h1
    subst this
    exact ⟨h2, h3⟩
  · intro hh; exact ⟨n, h, hh⟩
theorem Sh.symm {a b : List UInt8} {n : Nat} (h : Sh a b n) : Sh b a n := ⟨h.1, fun i hi => (h.2.1 i hi).symm, fun hn e => h.2.2 hn e.symm⟩
theorem less_irrefl (a : List UInt8) : ¬ Less a a := fun ⟨n, h, hn, _⟩ => h.2.2 hn rfl
theorem less_asymm {a b : List UInt8} (h : Less a b) : ¬ Less b a := by
  obtain ⟨n, h1, h2, h3⟩ := h
  rw [less_iff h1.symm]
  rintro ⟨_, h4⟩
  exact h1.2.2 h2 (h3.trans h4.symm)
theorem less_total {a b : List UInt8} (ha : a.length = 32) (hb : b.length = 32) (h1 : ¬ Less a b) (h2 : ¬ Less b a) : a = b := by
  obtain ⟨n, hn⟩ := Sh.ex a b
  rw [less_iff hn] at h1
  rw [less_iff hn.symm] at h2
  by_cases hlt : n < 256
  · have := hn.2.2 hlt
    cases ea : bit a n <;> cases eb : bit b n
    · rw [ea, eb] at this; exact (this rfl).elim
    · exact (h1 ⟨hlt, ea⟩).elim
    · exact (h2 ⟨hlt, eb⟩).elim
    · rw [ea, eb] at this; exact (this rfl).elim
  · exact ext ha hb fun i hi => hn.2.1 i (by omega)
theorem less_trans {a b c : List UInt8} (h1 : Less a b) (h2 : Less b c) : Less a c := by
  obtain ⟨n, a1, a2, a3⟩ := h1
  obtain ⟨m, b1, b2, b3⟩ := h2
  have hb : bit b n = true := by
    have := a1.2.2 a2
    rw [a3] at this
    cases e : bit b n
    · rw [e] at this; exact (this rfl).elim
    · rfl
  have hc : bit c m = true := by
    have := b1.2.2 b2
    rw [b3] at this
    cases e : bit c m
    · rw [e] at this; exact (this rfl).elim
    · rfl
  rcases Nat.lt_trichotomy n m with hl | hl | hl
  · refine ⟨n, ⟨a1.1, fun i hi => (a1.2.1 i hi).trans (b1.2.1 i (by omega)), fun _ e => ?_⟩, a2, a3⟩
    rw [a3, ← b1.2.1 n hl, hb] at e
    cases e
  · subst hl; rw [hb] at b3; cases b3
  · refine ⟨m, ⟨b1.1, fun i hi => (a1.2.1 i (by omega)).trans (b1.2.1 i hi), fun _ e => ?_⟩, b2, ?_⟩
    · rw [a1.2.1 m hl, b3, hc] at e; cases e
    · rw [a1.2.1 m hl, b3]
/-- The bits within one byte. -/
theorem bit_byte (ks : List UInt8) (j t : Nat) (ht : t < 8) : bit ks (8 * j + t) = (ks.getD j 0).toNat.testBit (7 - t) := by
  unfold bit
  rw [show (8 * j + t) / 8 = j by omega, show (8 * j + t) % 8 = t by omega]
/-- Equal bytes up to a place, and another one there: so many bits are the same. -/
theorem sh_of_byte {a b : List UInt8} {j t : Nat} (hj : j < 32) (ht : t < 8) (he : ∀ i, i < j → a.getD i 0 = b.getD i 0)
    (h1 : ∀ u, u < t → (a.getD j 0).toNat.testBit (7 - u) = (b.getD j 0).toNat.testBit (7 - u)) (h2 : (a.getD j 0).toNat.testBit (7 - t) ≠ (b.getD j 0).toNat.testBit (7 - t)) : Sh a b (8 * j + t) := by
  refine ⟨by omega, fun i hi => ?_, fun _ => ?_⟩
  · by_cases hij : i / 8 < j
    · unfold bit; rw [he _ hij]
    · have hu : i % 8 < t := by omega
      have e : i = 8 * j + i % 8 := by omega
      rw [e, bit_byte _ _ _ (by omega), bit_byte _ _ _ (by omega)]
      exact h1 _ hu
  · rw [bit_byte _ _ _ ht, bit_byte _ _ _ ht]; exact h2
theorem lt_of_bits {x y : Nat} (i : Nat) (hx : x.testBit i = false) (hy : y.testBit i = true) (h : ∀ j, i < j → x.testBit j = y.testBit j) : x < y := by
  have hh : x / 2 ^ (i + 1) = y / 2 ^ (i + 1) := by
    apply Nat.eq_of_testBit_eq
    intro k
    rw [Nat.testBit_div_two_pow, Nat.testBit_div_two_pow]
    exact h _ (by omega)
  rw [Nat.testBit_eq_decide_div_mod_eq] at hx hy
  simp at hx hy
  rw [Nat.pow_succ, ← Nat.div_div_eq_div_mul, ← Nat.div_div_eq_div_mul] at hh
  exact Nat.lt_of_div_lt_div (c := 2 ^ i) (by omega)
/-- Bytes held against each other, one by one, are held against each other bit by bit. -/
theorem less_compare : ∀ {a b : List UInt8}, a.length = 32 → b.length = 32 → (Lib.compareBytes a b < 0 ↔ Less a b) := by
  intro a b ha hb
  have key : ∀ (n j : Nat) (xs ys : List UInt8), xs.length = n → ys.length = n → a.drop j = xs → b.drop j = ys → j + n = 32 → (∀ i, i < j → a.getD i 0 = b.getD i 0) → (Lib.compareBytes xs ys < 0 ↔ Less a b) := by
    intro n
    induction n with
    | zero =>
      intro j xs ys hx hy hdx hdy hj he
      have hx' : xs = [] := List.eq_nil_of_length_eq_zero hx
      have hy' : ys = [] := List.eq_nil_of_length_eq_zero hy
      rw [hx', hy']
      have hs : Sh a b 256 := ⟨Nat.le_refl _, fun i hi => by unfold bit; rw [he _ (by omega)], fun h => by omega⟩
      rw [less_iff hs]
      simp [Lib.compareBytes]
    | succ n ih =>
      intro j xs ys hx hy hdx hdy hj he
      cases xs with
      | nil => simp at hx
      | cons x xs =>
        cases ys with
        | nil => simp at hy
        | cons y ys =>
          have hax : a.getD j 0 = x := by
            rw [List.getD_eq_getElem?_getD, show a[j]? = (a.drop j)[0]? by simp, hdx]; rfl
          have hby : b.getD j 0 = y := by
            rw [List.getD_eq_getElem?_getD, show b[j]? = (b.drop j)[0]? by simp, hdy]; rfl
          unfold Lib.compareBytes
          by_cases hxy : x = y
          · subst hxy
            rw [if_neg (UInt8.lt_irrefl x), if_neg (UInt8.lt_irrefl x)]
            refine ih (j + 1) xs ys (by simpa using hx) (by simpa using hy) ?_ ?_ (by omega) fun i hi => ?_
            · rw [← List.drop_drop, hdx]; rfl
            · rw [← List.drop_drop, hdy]; rfl
            · by_cases hij : i = j
              · subst hij; rw [hax, hby]
              · exact he i (by omega)
          · have hne : x.toNat ≠ y.toNat := fun e => hxy (UInt8.toNat_inj.1 e)
            have hd : ∃ t, t < 8 ∧ (∀ u, u < t → x.toNat.testBit (7 - u) = y.toNat.testBit (7 - u)) ∧ x.toNat.testBit (7 - t) ≠ y.toNat.testBit (7 - t) := by
              have : ∀ k, k ≤ 8 → (∀ u, u < k → x.toNat.testBit (7 - u) = y.toNat.testBit (7 - u)) ∨ ∃ t, t < 8 ∧ (∀ u, u < t → x.toNat.testBit (7 - u) = y.toNat.testBit (7 - u)) ∧ x.toNat.testBit (7 - t) ≠ y.toNat.testBit (7 - t) := by
                intro k
                induction k with
                | zero => intro _; exact .inl fun u hu => by omega
                | succ k ihk =>
                  intro hk
                  rcases ihk (by omega) with h | h
                  · by_cases e : x.toNat.testBit (7 - k) = y.toNat.testBit (7 - k)
                    · exact .inl fun u hu => by
                        by_cases huk : u = k
                        · subst huk; exact e
                        · exact h u (by omega)
                    · exact .inr ⟨k, by omega, h, e⟩
                  · exact .inr h
              rcases this 8 (Nat.le_refl _) with h | h
              · refine (hne (Nat.eq_of_testBit_eq fun i => ?_)).elim
                by_cases hi : i < 8
                · have := h (7 - i) (by omega)
                  rwa [show 7 - (7 - i) = i by omega] at this
                · have hp : 2 ^ 8 ≤ 2 ^ i := Nat.pow_le_pow_right (by omega) (by omega)
                  have := u8_lt x
                  have := u8_lt y
                  rw [Nat.testBit_lt_two_pow (by omega), Nat.testBit_lt_two_pow (by omega)]
              · exact h
            obtain ⟨t, ht, h1, h2⟩ := hd
            have hs : Sh a b (8 * j + t) := sh_of_byte (by omega) ht he (by rw [hax, hby]; exact h1) (by rw [hax, hby]; exact h2)
            rw [less_iff hs, bit_byte _ _ _ ht, hax]
            have hcmp : ∀ p q : UInt8, (∀ u, u < t → p.toNat.testBit (7 - u) = q.toNat.testBit (7 - u)) → p.toNat.testBit (7 - t) = false → q.toNat.testBit (7 - t) = true → p < q := by
              intro p q g1 g2 g3
              refine UInt8.lt_iff_toNat_lt.2 (lt_of_bits (7 - t) g2 g3 fun i hi => ?_)
              by_cases hi8 : i < 8
              · have := g1 (7 - i) (by omega)
                rwa [show 7 - (7 - i) = i by omega] at this
              · have hp : 2 ^ 8 ≤ 2 ^ i := Nat.pow_le_pow_right (by omega) (by omega)
                have := u8_lt p
                have := u8_lt q
                rw [Nat.testBit_lt_two_pow (by omega), Nat.testBit_lt_two_pow (by omega)]
            cases e1 : x.toNat.testBit (7 - t) <;> cases e2 : y.toNat.testBit (7 - t)
            · rw [e1, e2] at h2; exact (h2 rfl).elim
            · have := hcmp x y h1 e1 e2
              rw [if_pos this]
              simp; omega
            · have := hcmp y x (fun u hu => (h1 u hu).symm) e2 e1
              rw [if_neg (UInt8.lt_asymm this), if_pos this]
              simp
            · rw [e1, e2] at h2; exact (h2 rfl).elim
  exact key 32 0 a b ha hb rfl rfl rfl fun i hi => by omega
end Go.Vc.Keys
