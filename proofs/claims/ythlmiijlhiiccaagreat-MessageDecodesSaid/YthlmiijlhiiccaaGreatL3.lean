/- Keys bit by bit: what the chapter on prefixes speaks of, in plain Lean; no program. -/
import Derived.Test.YthlmiijlhiiccaaGreatS
import Derived.Test.YthlmiijlhiiccaaGreatFa
set_option linter.unusedVariables false
namespace Go.Vc.Keys
open Go

def bit (ks : List UInt8) (i : Nat) : Bool := (ks.getD (i / 8) 0).toNat.testBit (7 - i % 8)
def bitI (ks : List UInt8) (i : Int) : Int := if 0 ≤ i ∧ i < 256 then (if bit ks i.toNat then 1 else 0) else 0
theorem ext {ks ls : List UInt8} (h1 : ks.length = 32) (h2 : ls.length = 32) (h : ∀ i, i < 256 → bit ks i = bit ls i) : ks = ls := by
  apply List.ext_getElem (by omega)
  intro j hj1 hj2
  apply UInt8.toNat_inj.1
  apply Nat.eq_of_testBit_eq
  intro t
  by_cases ht : t < 8
  · have := h (8 * j + (7 - t)) (by omega)
    unfold bit at this
    rw [show (8 * j + (7 - t)) / 8 = j by omega, show 7 - (8 * j + (7 - t)) % 8 = t by omega] at this
    simpa [List.getD_eq_getElem?_getD, hj1, hj2] using this
  · have hp : 2 ^ 8 ≤ 2 ^ t := Nat.pow_le_pow_right (by omega) (by omega)
    have a := u8_lt ks[j]
    have b := u8_lt ls[j]
    rw [Nat.testBit_lt_two_pow (by omega), Nat.testBit_lt_two_pow (by omega)]
/-- So many first bits are the same. -/
def Sh (a b : List UInt8) (n : Nat) : Prop := n ≤ 256 ∧ (∀ i, i < n → bit a i = bit b i) ∧ (n < 256 → bit a n ≠ bit b n)
theorem Sh.uniq {a b : List UInt8} {n m : Nat} (h : Sh a b n) (h' : Sh a b m) : n = m := by
  rcases Nat.lt_trichotomy n m with hl | hl | hl
  · exact ((h.2.2 (by have := h'.1; omega)) (h'.2.1 n hl)).elim
  · exact hl
  · exact ((h'.2.2 (by have := h.1; omega)) (h.2.1 m hl)).elim
theorem Sh.ge {a b : List UInt8} {n : Nat} (h : Sh a b n) {l : Int} (hl : l ≤ 256) : l ≤ (n : Int) ↔ ∀ i : Nat, i < 256 → (i : Int) < l → bit a i = bit b i := by
  constructor
  · intro hn i hi hil; exact h.2.1 i (by omega)
  · intro hall
    by_cases hn : l ≤ n
    · exact hn
    · exact ((h.2.2 (by omega)) (hall n (by omega) (by omega))).elim
theorem Sh.ex (a b : List UInt8) : ∃ n, Sh a b n := by
  have key : ∀ k, k ≤ 256 → (∀ i, i < k → bit a i = bit b i) ∨ ∃ n, Sh a b n := by
    intro k
    induction k with
    | zero => intro _; exact .inl fun i hi => by omega
    | succ k ih =>
      intro hk
      rcases ih (by omega) with h | h
      · by_cases he : bit a k = bit b k
        · exact .inl fun i hi => by
            by_cases hik : i = k
            · subst hik; exact he
            · exact h i (by omega)
        · exact .inr ⟨k, by omega, h, fun _ => he⟩
      · exact .inr h
  rcases key 256 (Nat.le_refl _) with h | h
  · exact ⟨256, Nat.le_refl _, h, fun hh => by omega⟩
  · exact h
def IsCut (ks : List UInt8) (n : Nat) (ls : List UInt8) : Prop := ls.length = 32 ∧ ∀ i, i < 256 → bit ls i = (bit ks i && decide (i < n))
theorem IsCut.uniq {ks ls ms : List UInt8} {n : Nat} (h : IsCut ks n ls) (h' : IsCut ks n ms) : ls = ms :=
  ext h.1 h'.1 fun i hi => (h.2 i hi).trans (h'.2 i hi).symm
def clampN (n : Int) : Nat := (min (max n 0) 256).toNat
def Formed (l : Int) (ks : List UInt8) : Prop := 0 ≤ l ∧ l ≤ 256 ∧ ∀ i : Nat, i < 256 → l ≤ (i : Int) → bit ks i = false
instance (l : Int) (ks : List UInt8) : Decidable (Formed l ks) := inferInstanceAs (Decidable (_ ∧ _ ∧ _))
theorem formed_cut {l : Int} {ks ls : List UInt8} (hk : ks.length = 32) (h0 : 0 ≤ l) (h1 : l ≤ 256) (hc : IsCut ks l.toNat ls) : ls = ks ↔ Formed l ks := by
  constructor
  · intro e
    subst e
    refine ⟨h0, h1, fun i hi hl => ?_⟩
    have := hc.2 i hi
    rw [this, show decide (i < l.toNat) = false by simp; omega, Bool.and_false]
  · intro hf
    refine ext hc.1 hk fun i hi => ?_
    rw [hc.2 i hi]
    by_cases hil : i < l.toNat
    · simp [hil]
    · rw [hf.2.2 i hi (by omega), Bool.false_and]
def Holds (l : Int) (ks k : List UInt8) : Prop := Formed l ks ∧ ∀ i : Nat, i < 256 → (i : Int) < l → bit ks i = bit k i
instance (l : Int) (ks k : List UInt8) : Decidable (Holds l ks k) := inferInstanceAs (Decidable (_ ∧ _))
theorem holds_cut {l : Int} {ks k ls : List UInt8} (hk : ks.length = 32) (hf : Formed l ks) (hc : IsCut k l.toNat ls) : ls = ks ↔ Holds l ks k := by
  constructor
  · intro e
    subst e
    refine ⟨hf, fun i hi hl => ?_⟩
    have := hf.1
    rw [hc.2 i hi, show decide (i < l.toNat) = true by simp; omega, Bool.and_true]
  · intro hh
    refine ext hc.1 hk fun i hi => ?_
    rw [hc.2 i hi]
    have := hf.1
    by_cases hil : i < l.toNat
    · rw [hh.2 i hi (by omega)]; simp [hil]
    · rw [hf.2.2 i hi (by omega)]; simp [hil]
def Within (l : Int) (p : List UInt8) (m : Int) (q : List UInt8) : Prop := Formed l p ∧ Formed m q ∧ l ≤ m ∧ ∀ i : Nat, i < 256 → (i : Int) < l → bit p i = bit q i
instance (l : Int) (p : List UInt8) (m : Int) (q : List UInt8) : Decidable (Within l p m q) := inferInstanceAs (Decidable (_ ∧ _ ∧ _ ∧ _))
def zeros : List UInt8 := List.replicate 32 0
theorem bit_zeros (i : Nat) : bit zeros i = false := by
  unfold bit zeros
  rw [List.getD_eq_getElem?_getD, List.getElem?_replicate]
  split <;> simp
def IsMeet (l : Int) (p : List UInt8) (m : Int) (q : List UInt8) (n : Int) (ls : List UInt8) : Prop :=
  if Formed l p ∧ Formed m q then ∃ s, Sh p q s ∧ n = min (min (s : Int) l) m ∧ IsCut p n.toNat ls else n = 0 ∧ ls = zeros
theorem IsMeet.uniq {l m n n' : Int} {p q ls ls' : List UInt8} (h : IsMeet l p m q n ls) (h' : IsMeet l p m q n' ls') : n = n' ∧ ls = ls' := by
  unfold IsMeet at h h'
  split at h
  · rename_i hc
    rw [if_pos hc] at h'
    obtain ⟨s, h1, h2, h3⟩ := h
    obtain ⟨s', h1', h2', h3'⟩ := h'
    have := h1.uniq h1'
    subst this
    have hn : n = n' := by rw [h2, h2']
    subst hn
    exact ⟨rfl, h3.uniq h3'⟩
  · rename_i hc
    rw [if_neg hc] at h'
    exact ⟨h.1.trans h'.1.symm, h.2.trans h'.2.symm⟩
def IsChild (l : Int) (p : List UInt8) (b : Int) (n : Int) (ls : List UInt8) (ok : Bool) : Prop :=
  if Formed l p ∧ l ≤ 255 ∧ (b = 0 ∨ b = 1) then ok = true ∧ n = l + 1 ∧ ls.length = 32 ∧ ∀ i : Nat, i < 256 → bit ls i = (bit p i || decide ((i : Int) = l ∧ b = 1)) else ok = false ∧ n = 0 ∧ ls = zeros
theorem IsChild.uniq {l b n n' : Int} {p ls ls' : List UInt8} {ok ok' : Bool} (h : IsChild l p b n ls ok) (h' : IsChild l p b n' ls' ok') : n = n' ∧ ls = ls' ∧ ok = ok' := by
  unfold IsChild at h h'
  split at h
  · rename_i hc
    rw [if_pos hc] at h'
    exact ⟨h.2.1.trans h'.2.1.symm, ext h.2.2.1 h'.2.2.1 fun i hi => (h.2.2.2 i hi).trans (h'.2.2.2 i hi).symm, h.1.trans h'.1.symm⟩
  · rename_i hc
    rw [if_neg hc] at h'
    exact ⟨h.2.1.trans h'.2.1.symm, h.2.2.trans h'.2.2.symm, h.1.trans h'.1.symm⟩
/-- At the first bit where they part, a has 0. -/
def Less (a b : List UInt8) : Prop := ∃ n, Sh a b n ∧ n < 256 ∧ bit a n = false
theorem less_iff {a b : List UInt8} {n : Nat} (h : Sh a b n) : Less a b ↔ n < 256 ∧ bit a n = false := by
  constructor
  · rintro ⟨m, h1, h2, h3⟩
    have := h.uniq h1
    subst this
    exact ⟨h2, h3⟩
  · intro hh; exact ⟨n, h, hh⟩
theorem Sh.symm {a b : List UInt8} {n : Nat} (h : Sh a b n) : Sh b a n := ⟨h.1, fun i hi => (h.2.1 i hi).symm, fun hn e => h.2.2 hn e.symm⟩
theorem less_irrefl (a : List UInt8) : ¬ Less a a := fun ⟨n, h, hn, _⟩ => h.2.2 hn rfl
theorem less_asymm {a b : List UInt8} (h : Less a b) : ¬ Less b a := by
  obtain ⟨n, h1, h2, h3⟩ := h
  rw [less_iff h1.symm]
  rintro ⟨_, h4⟩
  exact h1.2.2 h2 (h3.trans h4.symm)
theorem less_total {a b : List UInt8} (ha : a.length = 32) (hb : b.length = 32) (h1 : ¬ Less a b) (h2 : ¬ Less b a) : a = b := by
  obtain ⟨n, hn⟩ := Sh.ex a b
  rw [less_iff hn] at h1
  rw [less_iff hn.symm] at h2
  by_cases hlt : n < 256
  · have := hn.2.2 hlt
    cases ea : bit a n <;> cases eb : bit b n
    · rw [ea, eb] at this; exact (this rfl).elim
    · exact (h1 ⟨hlt, ea⟩).elim
    · exact (h2 ⟨hlt, eb⟩).elim
    · rw [ea, eb] at this; exact (this rfl).elim
  · exact ext ha hb fun i hi => hn.2.1 i (by omega)
theorem less_trans {a b c : List UInt8} (h1 : Less a b) (h2 : Less b c) : Less a c := by
  obtain ⟨n, a1, a2, a3⟩ := h1
  obtain ⟨m, b1, b2, b3⟩ := h2
  have hb : bit b n = true := by
    have := a1.2.2 a2
    rw [a3] at this
    cases e : bit b n
    · rw [e] at this; exact (this rfl).elim
    · rfl
  have hc : bit c m = true := by
    have := b1.2.2 b2
    rw [b3] at this
    cases e : bit c m
    · rw [e] at this; exact (this rfl).elim
    · rfl
  rcases Nat.lt_trichotomy n m with hl | hl | hl
  · refine ⟨n, ⟨a1.1, fun i hi => (a1.2.1 i hi).trans (b1.2.1 i (by omega)), fun _ e => ?_⟩, a2, a3⟩
    rw [a3, ← b1.2.1 n hl, hb] at e
    cases e
  · subst hl; rw [hb] at b3; cases b3
  · refine ⟨m, ⟨b1.1, fun i hi => (a1.2.1 i (by omega)).trans (b1.2.1 i hi), fun _ e => ?_⟩, b2, ?_⟩
    · rw [a1.2.1 m hl, b3, hc] at e; cases e
    · rw [a1.2.1 m hl, b3]
/-- The bits within one byte. -/
theorem bit_byte (ks : List UInt8) (j t : Nat) (ht : t < 8) : bit ks (8 * j + t) = (ks.getD j 0).toNat.testBit (7 - t) := by
  unfold bit
  rw [show (8 * j + t) / 8 = j by omega, show (8 * j + t) % 8 = t by omega]
/-- Equal bytes up to a place, and another one there: so many bits are the same. -/
theorem sh_of_byte {a b : List UInt8} {j t : Nat} (hj : j < 32) (ht : t < 8) (he : ∀ i, i < j → a.getD i 0 = b.getD i 0)
    (h1 : ∀ u, u < t → (a.getD j 0).toNat.testBit (7 - u) = (b.getD j 0).toNat.testBit (7 - u)) (h2 : (a.getD j 0).toNat.testBit (7 - t) ≠ (b.getD j 0).toNat.testBit (7 - t)) : Sh a b (8 * j + t) := by
  refine ⟨by omega, fun i hi => ?_, fun _ => ?_⟩
  · by_cases hij : i / 8 < j
    · unfold bit; rw [he _ hij]
    · have hu : i % 8 < t := by omega
      have e : i = 8 * j + i % 8 := by omega
      rw [e, bit_byte _ _ _ (by omega), bit_byte _ _ _ (by omega)]
      exact h1 _ hu
  · rw [bit_byte _ _ _ ht, bit_byte _ _ _ ht]; exact h2
theorem lt_of_bits {x y : Nat} (i : Nat) (hx : x.testBit i = false) (hy : y.testBit i = true) (h : ∀ j, i < j → x.testBit j = y.testBit j) : x < y := by
  have hh : x / 2 ^ (i + 1) = y / 2 ^ (i + 1) := by
    apply Nat.eq_of_testBit_eq
    intro k
    rw [Nat.testBit_div_two_pow, Nat.testBit_div_two_pow]
    exact h _ (by omega)
  rw [Nat.testBit_eq_decide_div_mod_eq] at hx hy
  simp at hx hy
  rw [Nat.pow_succ, ← Nat.div_div_eq_div_mul, ← Nat.div_div_eq_div_mul] at hh
  exact Nat.lt_of_div_lt_div (c := 2 ^ i) (by omega)
/-- Bytes held against each other, one by one, are held against each other bit by bit. -/
theorem less_compare : ∀ {a b : List UInt8}, a.length = 32 → b.length = 32 → (Lib.compareBytes a b < 0 ↔ Less a b) := by
  intro a b ha hb
  have key : ∀ (n j : Nat) (xs ys : List UInt8), xs.length = n → ys.length = n → a.drop j = xs → b.drop j = ys → j + n = 32 → (∀ i, i < j → a.getD i 0 = b.getD i 0) → (Lib.compareBytes xs ys < 0 ↔ Less a b) := by
    intro n
    induction n with
    | zero =>
      intro j xs ys hx hy hdx hdy hj he
      have hx' : xs = [] := List.eq_nil_of_length_eq_zero hx
      have hy' : ys = [] := List.eq_nil_of_length_eq_zero hy
      rw [hx', hy']
      have hs : Sh a b 256 := ⟨Nat.le_refl _, fun i hi => by unfold bit; rw [he _ (by omega)], fun h => by omega⟩
      rw [less_iff hs]
      simp [Lib.compareBytes]
    | succ n ih =>
      intro j xs ys hx hy hdx hdy hj he
      cases xs with
      | nil => simp at hx
      | cons x xs =>
        cases ys with
        | nil => simp at hy
        | cons y ys =>
          have hax : a.getD j 0 = x := by
            rw [List.getD_eq_getElem?_getD, show a[j]? = (a.drop j)[0]? by simp, hdx]; rfl
          have hby : b.getD j 0 = y := by
            rw [List.getD_eq_getElem?_getD, show b[j]? = (b.drop j)[0]? by simp, hdy]; rfl
          unfold Lib.compareBytes
          by_cases hxy : x = y
          · subst hxy
            rw [if_neg (UInt8.lt_irrefl x), if_neg (UInt8.lt_irrefl x)]
            refine ih (j + 1) xs ys (by simpa using hx) (by simpa using hy) ?_ ?_ (by omega) fun i hi => ?_
            · rw [← List.drop_drop, hdx]; rfl
            · rw [← List.drop_drop, hdy]; rfl
            · by_cases hij : i = j
              · subst hij; rw [hax, hby]
              · exact he i (by omega)
          · have hne : x.toNat ≠ y.toNat := fun e => hxy (UInt8.toNat_inj.1 e)
            have hd : ∃ t, t < 8 ∧ (∀ u, u < t → x.toNat.testBit (7 - u) = y.toNat.testBit (7 - u)) ∧ x.toNat.testBit (7 - t) ≠ y.toNat.testBit (7 - t) := by
              have : ∀ k, k ≤ 8 → (∀ u, u < k → x.toNat.testBit (7 - u) = y.toNat.testBit (7 - u)) ∨ ∃ t, t < 8 ∧ (∀ u, u < t → x.toNat.testBit (7 - u) = y.toNat.testBit (7 - u)) ∧ x.toNat.testBit (7 - t) ≠ y.toNat.testBit (7 - t) := by
                intro k
                induction k with
                | zero => intro _; exact .inl fun u hu => by omega
                | succ k ihk =>
                  intro hk
                  rcases ihk (by omega) with h | h
                  · by_cases e : x.toNat.testBit (7 - k) = y.toNat.testBit (7 - k)
                    · exact .inl fun u hu => by
                        by_cases huk : u = k
                        · subst huk; exact e
                        · exact h u (by omega)
                    · exact .inr ⟨k, by omega, h, e⟩
                  · exact .inr h
              rcases this 8 (Nat.le_refl _) with h | h
              · refine (hne (Nat.eq_of_testBit_eq fun i => ?_)).elim
                by_cases hi : i < 8
                · have := h (7 - i) (by omega)
                  rwa [show 7 - (7 - i) = i by omega] at this
                · have hp : 2 ^ 8 ≤ 2 ^ i := Nat.pow_le_pow_right (by omega) (by omega)
                  have := u8_lt x
                  have := u8_lt y
                  rw [Nat.testBit_lt_two_pow (by omega), Nat.testBit_lt_two_pow (by omega)]
              · exact h
            obtain ⟨t, ht, h1, h2⟩ := hd
            have hs : Sh a b (8 * j + t) := sh_of_byte (by omega) ht he (by rw [hax, hby]; exact h1) (by rw [hax, hby]; exact h2)
            rw [less_iff hs, bit_byte _ _ _ ht, hax]
            have hcmp : ∀ p q : UInt8, (∀ u, u < t → p.toNat.testBit (7 - u) = q.toNat.testBit (7 - u)) → p.toNat.testBit (7 - t) = false → q.toNat.testBit (7 - t) = true → p < q := by
              intro p q g1 g2 g3
              refine UInt8.lt_iff_toNat_lt.2 (lt_of_bits (7 - t) g2 g3 fun i hi => ?_)
              by_cases hi8 : i < 8
              · have := g1 (7 - i) (by omega)
                rwa [show 7 - (7 - i) = i by omega] at this
              · have hp : 2 ^ 8 ≤ 2 ^ i := Nat.pow_le_pow_right (by omega) (by omega)
                have := u8_lt p
                have := u8_lt q
                rw [Nat.testBit_lt_two_pow (by omega), Nat.testBit_lt_two_pow (by omega)]
            cases e1 : x.toNat.testBit (7 - t) <;> cases e2 : y.toNat.testBit (7 - t)
            · rw [e1, e2] at h2; exact (h2 rfl).elim
            · have := hcmp x y h1 e1 e2
              rw [if_pos this]
              simp; omega
            · have := hcmp y x (fun u hu => (h1 u hu).symm) e2 e1
              rw [if_neg (UInt8.lt_asymm this), if_pos this]
              simp
            · rw [e1, e2] at h2; exact (h2 rfl).elim
  exact key 32 0 a b ha hb rfl rfl rfl fun i hi => by omega
end Go.Vc.Keys
/- Keys and prefixes: what the functions of the program and of the reference answer (bits, shared bits, cuts). -/
set_option linter.unusedVariables false
namespace Go.Proofs.YthlmiijlhiiccaaGreat
open Go Go.Vc Go.Proofs Go.Vc.Keys

abbrev hv (ks : List UInt8) : Array Value := (bcs ks).toArray
abbrev pv (l : Int) (ks : List UInt8) : Array Value := (.int .i64 l :: bcs ks).toArray

theorem and_one (x s : Nat) : ((x / 2 ^ s) &&& 1) = if x.testBit s then 1 else 0 := by
  rw [Nat.and_one_is_mod, Nat.testBit_eq_decide_div_mod_eq]
  have := Nat.mod_two_eq_zero_or_one (x / 2 ^ s)
  rcases this with e | e <;> simp [e]
theorem bit_get {ks : List UInt8} (hk : ks.length = 32) {n : Nat} (hn : n < 256) : bit ks n = (ks[n / 8]'(by omega)).toNat.testBit (7 - n % 8) := by
  unfold bit
  rw [List.getD_eq_getElem?_getD, List.getElem?_eq_getElem (by omega), Option.getD_some]

theorem bitI_nat (ks : List UInt8) {n : Nat} (hn : n < 256) : bitI ks (n : Int) = if bit ks n then 1 else 0 := by
  unfold bitI
  rw [if_pos (show 0 ≤ (n : Int) ∧ (n : Int) < 256 by omega), Int.toNat_natCast]
theorem rbit_ok {h : Heap} {ks : List UInt8} (hk : ks.length = 32) (i : Int) : CallsH Tryz.prog n_ref03_Bit #[.agg (hv ks), .int .i64 i] h fun v h' => v = .int .i64 (bitI ks i) ∧ Ext h h' := by
  refine C_ref03_Bit (hv ks) i ?_
  unfold F_ref03_Bit
  refine (St.start h).newBlk fun b h1 hb s e => ?_
  rw [br_decide]
  refine ⟨fun hi => ⟨by rw [bitI, if_neg (by omega)], e⟩, fun hi => ?_⟩
  rw [br_decide]
  refine ⟨fun hi' => ⟨by rw [bitI, if_neg (by omega)], e⟩, fun hi' => ?_⟩
  obtain ⟨n, rfl⟩ : ∃ n : Nat, i = n := ⟨i.toNat, by omega⟩
  have e1 : Int.tdiv (n : Int) 8 = ((n / 8 : Nat) : Int) := rfl
  have e2 : Int.tmod (n : Int) 8 = ((n % 8 : Nat) : Int) := rfl
  have e3 : (7 : Int) - ((n % 8 : Nat) : Int) = ((7 - n % 8 : Nat) : Int) := by omega
  rw [e1, e2, e3, wrap_i64 (n := ((n / 8 : Nat) : Int)) (by omega) (by omega), wrap_i64 (n := ((7 - n % 8 : Nat) : Int)) (by omega) (by omega)]
  have hx := u8_lt (ks[n / 8]'(by omega))
  refine ⟨by omega, by omega, by omega, ((ks[n / 8]'(by omega)).toNat : Int), ?_, fun t h' => h' = h1 ∧ ∃ k : Nat, t.2 = k ∧ k ≤ 7 - n % 8 ∧ t.1 = (((ks[n / 8]'(by omega)).toNat / 2 ^ k : Nat) : Int), fun t _ => 8 - t.2.toNat, ⟨rfl, 0, rfl, by omega, ?_⟩, ?_⟩
  · simp only [add_mk, Int.toNat_natCast, Nat.zero_add, Nat.mul_one]
    exact s.cell0 (bcs_get (i := n / 8) (by omega))
  · rw [wrap_i64 (by omega) (by omega)]; simp
  rintro ⟨x, c⟩ h6 ⟨rfl, k, hc, hkn, hx'⟩
  simp only at hc hx' ⊢
  subst hc; subst hx'
  refine ⟨by omega, ?_⟩
  rw [br_decide]
  have hdk := Nat.lt_of_le_of_lt (Nat.div_le_self (ks[n / 8]'(by omega)).toNat (2 ^ k)) hx
  have hdk2 := Nat.lt_of_le_of_lt (Nat.div_le_self ((ks[n / 8]'(by omega)).toNat / 2 ^ k) 2) hdk
  have ed : Int.tdiv (((ks[n / 8]'(by omega)).toNat / 2 ^ k : Nat) : Int) 2 = (((ks[n / 8]'(by omega)).toNat / 2 ^ k / 2 : Nat) : Int) := rfl
  refine ⟨fun hlt => ⟨by omega, ⟨by trivial, k + 1, by rw [wrap_i64 (by omega) (by omega)]; omega, by omega, ?_⟩, ?_⟩, fun hge => ⟨by omega, ?_, e⟩⟩
  · rw [ed]
    rw [wrap_i64 (by exact Int.le_trans (by omega) (Int.natCast_nonneg _)) (by exact Int.le_trans (Int.ofNat_le.2 (Nat.le_of_lt hdk2)) (by omega)), Nat.pow_succ, Nat.div_div_eq_div_mul]
  · rw [wrap_i64 (by omega) (by omega)]; omega
  · have : k = 7 - n % 8 := by omega
    subst this
    have em : Int.tmod (((ks[n / 8]'(by omega)).toNat / 2 ^ (7 - n % 8) : Nat) : Int) 2 = (((ks[n / 8]'(by omega)).toNat / 2 ^ (7 - n % 8) % 2 : Nat) : Int) := rfl
    rw [em, ← Nat.and_one_is_mod, and_one, bitI_nat _ (by omega), bit_get hk (by omega)]
    split <;> simp

/-- How many digits a byte has, from the table: its first bit that is 1. -/
def lenB (x : Nat) : Nat := if x = 0 then 0 else Nat.log2 x + 1
theorem lead_facts (x : Nat) (hx : x < 256) (h0 : x ≠ 0) : 1 ≤ lenB x ∧ lenB x ≤ 8 ∧ x.testBit (lenB x - 1) = true ∧ ∀ j, j < 8 → lenB x ≤ j → x.testBit j = false := by
  have key : ∀ x : Fin 256, x.val ≠ 0 → 1 ≤ lenB x.val ∧ lenB x.val ≤ 8 ∧ x.val.testBit (lenB x.val - 1) = true ∧ ∀ j : Fin 8, lenB x.val ≤ j.val → x.val.testBit j.val = false := by decide +kernel
  obtain ⟨a, b, c, d⟩ := key ⟨x, hx⟩ h0
  exact ⟨a, b, c, fun j hj hl => d ⟨j, hj⟩ hl⟩
end Go.Proofs.YthlmiijlhiiccaaGreat
/- Keys and prefixes: cuts, and what is told of prefixes. -/
set_option linter.unusedVariables false
namespace Go.Proofs.YthlmiijlhiiccaaGreat
open Go Go.Vc Go.Proofs Go.Vc.Keys

theorem byte_wf (b : UInt8) : (Lit.int .u8 (b.toNat : Int)).wf = true := by
  have := u8_lt b
  simp [Lit.wf, IntKind.min, IntKind.max, IntKind.bits, IntKind.signed]
  omega
theorem keyLits_hash (d : Nat) {ks : List UInt8} (hk : ks.length = 32) : Tryz.prog.keyLits (d + 2) t_api_Hash (bcs ks) = some ((ks.map fun b => (b.toNat : Int)).map (Lit.int .u8)) := by
  have := keyLits_ints (P := Tryz.prog) (d := d) (n := 32) (t := t_api_Hash) (e := t_uint8) (k := .u8) u_api_Hash u_uint8 (by kernel_rfl) (by kernel_rfl) (ks.map fun b => (b.toNat : Int)) (by simpa using hk) (by
    intro x hx
    obtain ⟨b, _, rfl⟩ := List.mem_map.1 hx
    exact byte_wf b)
  rw [List.map_map] at this
  exact this
theorem toInts_inj {a b : List UInt8} (h : (a.map fun b => (b.toNat : Int)).map (Lit.int .u8) = (b.map fun b => (b.toNat : Int)).map (Lit.int .u8)) : a = b := by
  rw [List.map_map, List.map_map] at h
  exact (List.map_inj_right (by
    intro x y e
    simp at e
    exact UInt8.toNat_inj.1 (by omega))).1 h
theorem eq_hash {as' bs' : List UInt8} {K : Bool → Prop} (ha : as'.length = 32) (hb : bs'.length = 32) (hk : K (decide (as' = bs'))) : eqAgg Tryz.prog t_api_Hash (hv as') (hv bs') K := by
  refine ⟨_, _, keyLits_hash 7 ha, keyLits_hash 7 hb, fun r hr => ?_⟩
  have : r = decide (as' = bs') := by
    rw [Bool.eq_iff_iff, hr, decide_eq_true_iff]
    exact ⟨toInts_inj, fun e => by rw [e]⟩
  rw [this]; exact hk
/-- An int's number. -/
def I64 (n : Int) : Prop := -9223372036854775808 ≤ n ∧ n ≤ 9223372036854775807
theorem i64_wf {n : Int} (h : I64 n) : (Lit.int .i64 n).wf = true := by
  unfold I64 at h
  simp [Lit.wf, IntKind.min, IntKind.max, IntKind.bits, IntKind.signed]
  omega
theorem keyLits_prefix {l : Int} {ks : List UInt8} (hl : I64 l) (hk : ks.length = 32) : Tryz.prog.keyLits 9 t_api_Prefix (.int .i64 l :: bcs ks) = some (Lit.int .i64 l :: (ks.map fun b => (b.toNat : Int)).map (Lit.int .u8)) := by
  rw [Program.keyLits.eq_def]
  simp only
  rw [u_api_Prefix]
  have hc : Tryz.prog.cellsOf t_api_Prefix = 33 := by kernel_rfl
  have h1 : Tryz.prog.cellsOf t_int = 1 := by kernel_rfl
  have h2 : Tryz.prog.cellsOf t_api_Hash = 32 := by kernel_rfl
  simp only [hc, List.length_cons, bcs_length, hk]
  rw [if_pos ⟨trivial, by decide +kernel⟩]
  simp only [List.mapM_cons, List.mapM_nil, List.drop_zero, List.drop_succ_cons]
  have e1 : Tryz.prog.keyLits 8 t_int ((.int .i64 l :: bcs ks).take 1) = some [Lit.int .i64 l] := by
    rw [Program.keyLits.eq_def]
    simp only
    rw [u_int]
    simp [i64_wf hl]
  have e2 : Tryz.prog.keyLits 8 t_api_Hash ((bcs ks).take 32) = some ((ks.map fun b => (b.toNat : Int)).map (Lit.int .u8)) := by
    rw [List.take_of_length_le (by simp [bcs_length, hk])]
    exact keyLits_hash 6 hk
  rw [show Tryz.prog.cellsOf 3 = 1 from h1] 
  rw [h2]
  simp only [e1, e2]
  simp
theorem eq_prefix {l m : Int} {as' bs' : List UInt8} {K : Bool → Prop} (hl : I64 l) (hm : I64 m) (ha : as'.length = 32) (hb : bs'.length = 32) (hk : K (decide (l = m ∧ as' = bs'))) : eqAgg Tryz.prog t_api_Prefix (pv l as') (pv m bs') K := by
  refine ⟨_, _, keyLits_prefix hl ha, keyLits_prefix hm hb, fun r hr => ?_⟩
  have : r = decide (l = m ∧ as' = bs') := by
    rw [Bool.eq_iff_iff, hr, decide_eq_true_iff]
    constructor
    · intro e
      rw [List.cons.injEq] at e
      refine ⟨by simpa using e.1, toInts_inj e.2⟩
    · rintro ⟨e1, e2⟩; rw [e1, e2]
  rw [this]; exact hk
theorem one_hv (ks : List UInt8) : one (hv ks) := one_list (one_bcs ks)
theorem one_pv (l : Int) (ks : List UInt8) : one (pv l ks) := one_list (by
  intro v hv
  rcases List.mem_cons.1 hv with rfl | h
  · rfl
  · exact one_bcs ks v h)
theorem hv_size {ks : List UInt8} (hk : ks.length = 32) : (hv ks).size = 32 := by simp [bcs_length, hk]
theorem pv_size {l : Int} {ks : List UInt8} (hk : ks.length = 32) : (pv l ks).size = 33 := by simp [bcs_length, hk]
theorem pl_length {l : Int} {ks : List UInt8} (hk : ks.length = 32) : (Value.int .i64 l :: bcs ks).length = 33 := by simp [bcs_length, hk]
theorem zero_cells : (List.replicate (32 : Nat) (Value.int IntKind.u8 (0 : Int))) = bcs zeros := by unfold zeros; rw [bcs_replicate]; rfl
theorem zeros_length : zeros.length = 32 := by simp [zeros]

/- ### A byte's bits, kept or set -/
theorem mask_bits : ∀ kp : Fin 9, ∀ t : Fin 8, (255 ^^^ (255 / 2 ^ kp.val)).testBit (7 - t.val) = decide (t.val < kp.val) := by decide +kernel
theorem mask_lt : ∀ kp : Fin 9, 255 ^^^ (255 / 2 ^ kp.val) < 256 := by decide +kernel
theorem keep_byte (b : UInt8) {kp : Nat} (hk : kp ≤ 8) : ∃ y : UInt8, andI .u8 (b.toNat : Int) (xorI .u8 (if IntKind.u8.signed = true then -1 else IntKind.u8.max) (shrI .u8 255 (kp : Int))) = (y.toNat : Int) ∧ ∀ t, t < 8 → y.toNat.testBit (7 - t) = (b.toNat.testBit (7 - t) && decide (t < kp)) := by
  have h1 : shrI .u8 255 (kp : Int) = ((255 / 2 ^ kp : Nat) : Int) := shrI_nat .u8 255 kp hk
  have h2 : (if IntKind.u8.signed = true then (-1 : Int) else IntKind.u8.max) = ((255 : Nat) : Int) := rfl
  have h3 : 255 / 2 ^ kp < 256 := Nat.lt_of_le_of_lt (Nat.div_le_self _ _) (by omega)
  have h4 := mask_lt ⟨kp, by omega⟩
  simp only at h4
  rw [h1, h2, xorI_u8 (by omega) h3, andI_u8 (u8_lt b) h4]
  have h5 : b.toNat &&& (255 ^^^ 255 / 2 ^ kp) < 256 := Nat.lt_of_le_of_lt Nat.and_le_left (u8_lt b)
  have e : (UInt8.ofNat (b.toNat &&& (255 ^^^ 255 / 2 ^ kp))).toNat = b.toNat &&& (255 ^^^ 255 / 2 ^ kp) := by
    generalize b.toNat &&& (255 ^^^ 255 / 2 ^ kp) = z at h5
    rw [UInt8.toNat_ofNat']; omega
  refine ⟨UInt8.ofNat (b.toNat &&& (255 ^^^ 255 / 2 ^ kp)), by rw [e], fun t ht => ?_⟩
  · rw [e, Nat.testBit_and, mask_bits ⟨kp, by omega⟩ ⟨t, ht⟩]
theorem add_bits : ∀ j : Fin 8, ∀ x : Fin 256, x.val.testBit (7 - j.val) = false → x.val + 128 / 2 ^ j.val < 256 ∧ ∀ u : Fin 8, (x.val + 128 / 2 ^ j.val).testBit (7 - u.val) = (x.val.testBit (7 - u.val) || decide (u.val = j.val)) := by decide +kernel
theorem or_bits : ∀ j : Fin 8, ∀ x : Fin 256, x.val ||| 128 / 2 ^ j.val < 256 ∧ ∀ u : Fin 8, (x.val ||| 128 / 2 ^ j.val).testBit (7 - u.val) = (x.val.testBit (7 - u.val) || decide (u.val = j.val)) := by decide +kernel
theorem getD_set (ks : List UInt8) (j : Nat) (b : UInt8) (hj : j < ks.length) (i : Nat) : (ks.set j b).getD i 0 = if i = j then b else ks.getD i 0 := by
  rw [List.getD_eq_getElem?_getD, List.getElem?_set]
  by_cases hij : j = i
  · subst hij; simp [hj]
  · rw [if_neg hij, if_neg (fun e => hij e.symm), List.getD_eq_getElem?_getD]
theorem bit_set {ks : List UInt8} {j : Nat} {b : UInt8} (hj : j < ks.length) (i : Nat) : bit (ks.set j b) i = if i / 8 = j then b.toNat.testBit (7 - i % 8) else bit ks i := by
  unfold bit
  rw [getD_set _ _ _ hj]
  split <;> rfl

theorem minmax_clamp (n : Int) : minI (maxI n 0) 256 = (clampN n : Int) := by
  unfold minI maxI clampN
  split <;> split <;> omega
theorem clamp_le (n : Int) : clampN n ≤ 256 := by unfold clampN; omega
theorem clamp_of {n : Int} (h0 : 0 ≤ n) (h1 : n ≤ 256) : clampN n = n.toNat := by unfold clampN; omega

theorem cut_ok {h : Heap} {ks : List UInt8} (hk : ks.length = 32) (n : Int) :
    CallsH Tryz.prog n_prefix_Cut #[.agg (hv ks), .int .i64 n] h fun v h' => (∃ ls, v = .agg (pv (clampN n) ls) ∧ IsCut ks (clampN n) ls) ∧ Ext h h' := by
  refine C_prefix_Cut (hv ks) n ?_
  unfold F_prefix_Cut
  rw [minmax_clamp]
  have hN := clamp_le n
  generalize clampN n = N at hN ⊢
  refine (St.start h).newBlk fun b0 h1 hb0 s e => s.newBlk fun b2 h3 hb2 s e2 => ?_
  refine ⟨fun n h' => ∃ k : Nat, n = k ∧ k ≤ 32 ∧ ∃ ms : List UInt8, ms.length = 32 ∧ (∀ i, i < 256 → bit ms i = (bit ks i && (decide (i < N) || decide (8 * k ≤ i)))) ∧ St h h' [pts b0 0 false (bcs ms), pts b2 0 false (.int .i64 0 :: bcs zeros)],
    fun n _ => 32 - n.toNat, ⟨0, rfl, by omega, ks, hk, fun i hi => by simp, ?_⟩, ?_⟩
  · have := s.up1
    rw [zero_cells] at this
    exact this
  intro n h7 hI
  obtain ⟨k, hn, hk32, ms, hms, hbits, s⟩ := hI
  subst hn
  rw [br_decide]
  refine ⟨fun hlt => ?_, fun hge => ?_⟩
  · have e8 : IntKind.wrap .i64 (8 * (k : Int)) = ((8 * k : Nat) : Int) := by rw [wrap_i64 (by omega) (by omega)]; omega
    have e9 : IntKind.wrap .i64 ((N : Int) - ((8 * k : Nat) : Int)) = (N : Int) - ((8 * k : Nat) : Int) := wrap_i64 (by omega) (by omega)
    have e10 : minI (maxI ((N : Int) - ((8 * k : Nat) : Int)) 0) 8 = ((min (N - 8 * k) 8 : Nat) : Int) := by unfold minI maxI; split <;> split <;> omega
    rw [e8, e9, e10]
    have ew : IntKind.wrap .i64 ((k : Int) + 1) = ((k + 1 : Nat) : Int) := by rw [wrap_i64 (by omega) (by omega)]; omega
    rw [ew, br_decide]
    refine ⟨fun h8 => ⟨by omega, by omega, ((ms[k]'(by omega)).toNat : Int), ?_, by omega, by omega, by omega, ?_⟩, fun h8 => ⟨⟨k + 1, rfl, by omega, ms, hms, fun i hi => ?_, s⟩, by show 32 - ((k + 1 : Nat) : Int).toNat < 32 - (k : Int).toNat; omega⟩⟩
    · simp only [add_mk, Int.toNat_natCast, Nat.zero_add, Nat.mul_one]; exact s.cell0 (bcs_get (by omega))
    · simp only [add_mk, Int.toNat_natCast, Nat.zero_add, Nat.mul_one]
      obtain ⟨y, hy, hyb⟩ := keep_byte (ms[k]'(by omega)) (kp := min (N - 8 * k) 8) (by omega)
      rw [hy]
      refine s.store0 (by rw [bcs_length]; omega) rfl fun h9 s => ?_
      rw [bcs_set] at s
      refine ⟨⟨k + 1, rfl, by omega, ms.set k y, by simpa using hms, fun i hi => ?_, s⟩, by show 32 - ((k + 1 : Nat) : Int).toNat < 32 - (k : Int).toNat; omega⟩
      rw [bit_set (by omega)]
      by_cases hik : i / 8 = k
      · rw [if_pos hik, hyb _ (by omega)]
        have hb : (ms[k]'(by omega)).toNat.testBit (7 - i % 8) = bit ks i := by
          have := hbits i hi
          rw [show decide (8 * k ≤ i) = true by simp; omega, Bool.or_true, Bool.and_true] at this
          rw [← this, bit_get hms hi]
          congr 2
          subst hik; rfl
        rw [hb, show decide (8 * (k + 1) ≤ i) = false by simp; omega, Bool.or_false]
        congr 1
        simp only [decide_eq_decide]; omega
      · rw [if_neg hik, hbits i hi]
        congr 2
        simp only [decide_eq_decide]; omega
    · rw [hbits i hi]
      by_cases hiN : i < N
      · simp [hiN]
      · congr 2
        simp only [decide_eq_decide]; omega
  · have : k = 32 := by omega
    subst this
    refine ⟨hv ms, s.row0 (by rw [bcs_length, hms]), hv_size hms, ?_⟩
    refine s.up1.ret (by rw [pl_length zeros_length]) (by simp [bcs_length, hms]) (one_list (by
      intro v hv
      simp only [List.append_nil, List.mem_cons] at hv
      rcases hv with rfl | h
      · rfl
      · exact one_bcs ms v (by simpa using h))) fun h' e => ⟨⟨ms, by simp, hms, fun i hi => ?_⟩, e⟩
    rw [hbits i hi, show decide (8 * 32 ≤ i) = false by simp; omega, Bool.or_false]

/-- A key with a bit made 1. -/
def IsSet (ks : List UInt8) (i : Nat) (ls : List UInt8) : Prop := ls.length = 32 ∧ ∀ j, j < 256 → bit ls j = (bit ks j || decide (j = i))
end Go.Proofs.YthlmiijlhiiccaaGreat
/- Keys and prefixes: the reference's cut; formed, holds, within, meet, child, less. -/
set_option linter.unusedVariables false
namespace Go.Proofs.YthlmiijlhiiccaaGreat
open Go Go.Vc Go.Proofs Go.Vc.Keys

theorem St.storeTail {h0 h : Heap} {F : List HP} {b n : Nat} {v : Value} {vs : List Value} {cs : Array Value} {K : Heap → Prop} (hs : St h0 h (pts b 0 false (v :: vs) :: F)) (hn : vs.length = n) (hc : cs.size = n) (ho : one cs)
    (hk : ∀ h', St h0 h' (pts b 0 false (v :: cs.toList) :: F) → K h') : Vc.storeP (some n) h (Addr.mk b 1 none) (.agg cs) K := by
  have hcs : (Value.agg cs).cells = cs := rfl
  have := hs.storeRow (o := 0) (i := 1) (n := n) (v := .agg cs) (K := K) (by rw [hcs]; exact hc) (by simp; omega) (by rw [hcs]; exact ho) fun h' s => hk h' (by
    rw [hcs] at s
    have e : lay (v :: vs) 1 cs.toList = v :: cs.toList := by
      simp only [lay, List.take_succ_cons, List.take_zero, List.cons_append, List.nil_append]
      rw [List.drop_of_length_le (by simp [hc, hn]; omega), List.append_nil]
    rw [e] at s; exact s)
  simpa using this
theorem rowTail {h0 h : Heap} {F : List HP} {b : Nat} {l : Int} {ks : List UInt8} (hs : St h0 h (pts b 0 false (.int .i64 l :: bcs ks) :: F)) (hk : ks.length = 32) : row h (Addr.mk b 1 none) 32 = some (hv ks) := by
  have := hs.rowAt (i := 1) (n := 32) (by rw [pl_length hk]; decide)
  rw [this, List.drop_succ_cons, List.drop_zero, List.take_of_length_le (by rw [bcs_length, hk]; exact Nat.le_refl _)]
theorem rowAll {h0 h : Heap} {F : List HP} {b : Nat} {l : Int} {ks : List UInt8} (hs : St h0 h (pts b 0 false (.int .i64 l :: bcs ks) :: F)) (hk : ks.length = 32) : row h (Addr.mk b 0 none) 33 = some (pv l ks) := hs.row0 (pl_length hk)
theorem rowKey {h0 h : Heap} {F : List HP} {b : Nat} {ks : List UInt8} (hs : St h0 h (pts b 0 false (bcs ks) :: F)) (hk : ks.length = 32) : row h (Addr.mk b 0 none) 32 = some (hv ks) := hs.row0 (by rw [bcs_length, hk])

theorem formed_ok {h : Heap} {l : Int} {ks : List UInt8} (hl : I64 l) (hk : ks.length = 32) : CallsH Tryz.prog n_prefix_Formed #[.agg (pv l ks)] h fun v h' => v = .bool (decide (Formed l ks)) ∧ Ext h h' := by
  refine C_prefix_Formed (pv l ks) ?_
  unfold F_prefix_Formed
  refine (St.start h).newBlk fun b0 h1 hb0 s e => ?_
  simp only [add_mk, Nat.zero_add, Nat.add_zero]
  refine ⟨l, s.cell0 rfl, ?_⟩
  rw [br_decide]
  refine ⟨fun h0 => ⟨l, s.cell0 rfl, ?_⟩, fun h0 => ⟨by rw [decide_eq_false]; intro hf; exact h0 hf.1, e⟩⟩
  rw [br_decide]
  refine ⟨fun h256 => ?_, fun h256 => ⟨by rw [decide_eq_false]; intro hf; exact h256 hf.2.1, e⟩⟩
  refine ⟨hv ks, rowTail s hk, l, s.cell0 rfl, pv l ks, rowAll s hk, (cut_ok hk l).mono fun v h8 ⟨⟨ls, hv1, hls⟩, e8⟩ => ⟨e8, _, pv_size hls.1, hv1, ?_⟩⟩
  rw [clamp_of h0 h256] at hls ⊢
  refine eq_prefix (by unfold I64; omega) hl hls.1 hk ⟨?_, e.trans e8⟩
  congr 2
  rw [eq_iff_iff, ← formed_cut hk h0 h256 hls]
  constructor
  · exact fun hh => hh.2
  · exact fun hh => ⟨by omega, hh⟩
theorem rformed_ok {h : Heap} {l : Int} {ks : List UInt8} (hk : ks.length = 32) : CallsH Tryz.prog n_ref03_Formed #[.agg (pv l ks)] h fun v h' => v = .bool (decide (Formed l ks)) ∧ Ext h h' := by
  refine C_ref03_Formed (pv l ks) ?_
  unfold F_ref03_Formed
  refine (St.start h).newBlk fun b0 h1 hb0 s e => ?_
  simp only [add_mk, Nat.zero_add, Nat.add_zero]
  refine ⟨l, s.cell0 rfl, ?_⟩
  rw [br_decide]
  refine ⟨fun h0 => ⟨by rw [decide_eq_false]; intro hf; exact absurd hf.1 (by omega), e⟩, fun h0 => ⟨l, s.cell0 rfl, ?_⟩⟩
  rw [br_decide]
  refine ⟨fun h256 => ⟨by rw [decide_eq_false]; intro hf; exact absurd hf.2.1 (by omega), e⟩, fun h256 => ⟨l, s.cell0 rfl, ?_⟩⟩
  refine ⟨fun n h' => ∃ c : Nat, n = c ∧ l ≤ c ∧ c ≤ 256 ∧ (∀ i : Nat, i < c → l ≤ (i : Int) → bit ks i = false) ∧ St h h' [pts b0 0 false (.int .i64 l :: bcs ks)], fun n _ => 256 - n.toNat, ⟨l.toNat, by omega, by omega, by omega, fun i hi hl => by omega, s⟩, ?_⟩
  intro n h8 hI
  obtain ⟨c, hn, hlc, hc, hall, s⟩ := hI
  subst hn
  rw [br_decide]
  refine ⟨fun hlt => ⟨hv ks, rowTail s hk, (rbit_ok hk c).mono fun v h11 ⟨hv1, e11⟩ => ⟨e11, _, hv1, ?_⟩⟩, fun hge => ⟨?_, s.ext⟩⟩
  · have s := s.keep e11
    rw [br_beq, bitI_nat _ (by omega)]
    refine ⟨fun h1 => ⟨?_, s.ext⟩, fun h0 => ?_⟩
    · have hb : bit ks c = true := by cases hb : bit ks c <;> simp [hb] at h1 ⊢
      rw [decide_eq_false]
      intro hf
      rw [hf.2.2 c (by omega) hlc] at hb; cases hb
    · have hb : bit ks c = false := by cases hb : bit ks c <;> simp [hb] at h0 ⊢
      have ew : IntKind.wrap .i64 ((c : Int) + 1) = ((c + 1 : Nat) : Int) := by rw [wrap_i64 (by omega) (by omega)]; omega
      rw [ew]
      refine ⟨⟨c + 1, rfl, by omega, by omega, fun i hi hli => ?_, s⟩, by show 256 - ((c + 1 : Nat) : Int).toNat < 256 - (c : Int).toNat; omega⟩
      by_cases hic : i = c
      · subst hic; exact hb
      · exact hall i (by omega) hli
  · have : c = 256 := by omega
    subst this
    rw [decide_eq_true (show Formed l ks from ⟨by omega, by omega, hall⟩)]

theorem meet_zero {l m : Int} {p q : List UInt8} (hn : ¬ (Formed l p ∧ Formed m q)) : IsMeet l p m q 0 zeros := by unfold IsMeet; rw [if_neg hn]; exact ⟨rfl, rfl⟩
theorem zero_pv : (List.toArray (Value.int IntKind.i64 (0 : Int) :: List.replicate (32 : Nat) (Value.int IntKind.u8 (0 : Int)))) = pv 0 zeros := by rw [zero_cells]
end Go.Proofs.YthlmiijlhiiccaaGreat
