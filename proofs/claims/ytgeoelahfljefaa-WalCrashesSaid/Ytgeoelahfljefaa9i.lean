/- Layer 9: a page that is torn is the old one, or the new one, or it is not right (no program in sight). -/
import Derived.Test.Ytgeoelahfljefaa9f
set_option linter.unusedVariables false
set_option maxRecDepth 100000
namespace Go.Proofs.Ytgeoelahfljefaa
open Go Go.Vc Go.Proofs
/-- A mark's bytes. -/
def mb (g p : Nat) : List UInt8 := [0, 0, 0, UInt8.ofNat g, 0, 0, 0, UInt8.ofNat p]
theorem dg_zero {x i : Nat} (h : x / 256 ^ i % 256 = 0) : dg x i = 0 := by
  apply UInt8.toNat_inj.1
  rw [dg, UInt8.toNat_ofNat']
  exact h
theorem dg_of {x i y : Nat} (h : x / 256 ^ i % 256 = y % 256) : dg x i = UInt8.ofNat y := by
  apply UInt8.toNat_inj.1
  rw [dg, UInt8.toNat_ofNat', UInt8.toNat_ofNat']
  exact h
theorem numB_mark {g p : Nat} (hg : g < 256) (hp : p < 256) : numB (markN g p) 8 = mb g p := by
  have h : numB (markN g p) 8 = [dg (markN g p) 7, dg (markN g p) 6, dg (markN g p) 5, dg (markN g p) 4, dg (markN g p) 3, dg (markN g p) 2, dg (markN g p) 1, dg (markN g p) 0] := rfl
  have e : markN g p = g * 4294967296 + p := rfl
  rw [h, dg_zero (i := 7) (by rw [e, show (256 : Nat) ^ 7 = 72057594037927936 from rfl]; omega), dg_zero (i := 6) (by rw [e, show (256 : Nat) ^ 6 = 281474976710656 from rfl]; omega),
    dg_zero (i := 5) (by rw [e, show (256 : Nat) ^ 5 = 1099511627776 from rfl]; omega), dg_of (i := 4) (y := g) (by rw [e, show (256 : Nat) ^ 4 = 4294967296 from rfl]; omega),
    dg_zero (i := 3) (by rw [e, show (256 : Nat) ^ 3 = 16777216 from rfl]; omega), dg_zero (i := 2) (by rw [e, show (256 : Nat) ^ 2 = 65536 from rfl]; omega),
    dg_zero (i := 1) (by rw [e, show (256 : Nat) ^ 1 = 256 from rfl]; omega), dg_of (i := 0) (y := p) (by rw [e, show (256 : Nat) ^ 0 = 1 from rfl]; omega)]
  rfl
theorem valB_mb {g p : Nat} (hg : g < 256) (hp : p < 256) : valB (mb g p) = markN g p := by
  rw [← numB_mark hg hp, valB_numB, Nat.mod_eq_of_lt]
  unfold markN
  have : (256 : Nat) ^ 8 = 18446744073709551616 := rfl
  omega
theorem mb_mix (a b c d : Nat) : ∀ T, (mb a b).take T ++ (mb c d).drop T = if T < 4 then mb c d else if T < 8 then mb a d else mb a b
  | 0 => rfl | 1 => rfl | 2 => rfl | 3 => rfl | 4 => rfl | 5 => rfl | 6 => rfl | 7 => rfl
  | T + 8 => by
    rw [if_neg (by omega), if_neg (by omega), List.take_of_length_le (by simp [mb]), List.drop_of_length_le (by simp [mb]), List.append_nil]
/-- What stands in a page of a log at position j, whatever was torn: generations of at most G. -/
def Tame (G j : Nat) (p : List UInt8) : Prop := p.length = 128 ∧ ∃ hg hp tg tp, hg ≤ G ∧ tg ≤ G ∧ (hp = 0 ∨ hp = j + 1) ∧ (tp = 0 ∨ tp = j + 1) ∧ p.take 8 = mb hg hp ∧ p.drop 120 = mb tg tp
/-- It is never right. -/
def Bad (p : List UInt8) : Prop := ∀ place least, decW p place least = none
theorem tame_zero (j : Nat) : Tame 0 j zeroP := ⟨rfl, 0, 0, 0, 0, Nat.le_refl _, Nat.le_refl _, .inl rfl, .inl rfl, rfl, rfl⟩
theorem Tame.mono {G G' j : Nat} {p : List UInt8} (t : Tame G j p) (h : G ≤ G') : Tame G' j p := by
  obtain ⟨h1, hg, hp, tg, tp, a, b, c⟩ := t
  exact ⟨h1, hg, hp, tg, tp, by omega, by omega, c⟩
theorem page_head {g p k : Nat} {b : List UInt8} (hg : g < 256) (hp : p < 256) : (pageW g p k b).take 8 = mb g p := by
  unfold pageW
  simp only [List.append_assoc]
  rw [take_num, numB_mark hg hp]
theorem page_tail {g p k : Nat} {b : List UInt8} (hg : g < 256) (hp : p < 256) (hb : b.length ≤ 110) : (pageW g p k b).drop 120 = mb g p := by
  unfold pageW
  rw [List.drop_append, List.drop_of_length_le (by simp [numB_length]; omega), List.nil_append]
  have : 120 - (numB (markN g p) 8 ++ numB k 1 ++ numB b.length 1 ++ b ++ List.replicate (110 - b.length) 0).length = 0 := by simp [numB_length]; omega
  rw [this, List.drop_zero, numB_mark hg hp]
theorem tame_page {g j k : Nat} {b : List UInt8} (hg : g < 256) (hp : j + 1 < 256) (hb : b.length ≤ 110) : Tame g j (pageW g (j + 1) k b) :=
  ⟨pageW_length hb, g, j + 1, g, j + 1, Nat.le_refl _, Nat.le_refl _, .inr rfl, .inr rfl, page_head hg hp, page_tail hg hp hb⟩
theorem bad_of {p : List UInt8} (h : tl9 p ≠ mk9 p) : Bad p := fun place least => by
  rw [decW, if_neg (fun hh => h hh.2.2.1)]
theorem mix_head {p q : List UInt8} (hp : p.length = 128) (hq : q.length = 128) {T : Nat} (hT : T ≤ 128) : (q.take T ++ p.drop T).take 8 = (q.take 8).take T ++ (p.take 8).drop T := by
  apply List.ext_getElem?
  intro i
  simp only [List.getElem?_take, List.getElem?_append, List.getElem?_drop, List.length_take, hq, hp]
  by_cases h8 : i < 8
  · rw [if_pos h8]
    by_cases hi : i < T
    · rw [if_pos (by omega), if_pos hi, if_pos (by omega), if_pos hi, if_pos h8]
    · rw [if_neg (by omega), if_neg (by omega)]
      have : min (min 8 128) T = min 8 T := by omega
      rw [if_pos (by omega)]
      congr 1
      omega
  · rw [if_neg h8]
    by_cases h : i < min T (min 8 128)
    · omega
    · rw [if_neg (by omega), if_neg (by omega)]
theorem mix_tail {p q : List UInt8} (hp : p.length = 128) (hq : q.length = 128) {T : Nat} (hT : T ≤ 128) : (q.take T ++ p.drop T).drop 120 = (q.drop 120).take (T - 120) ++ (p.drop 120).drop (T - 120) := by
  by_cases h : T ≤ 120
  · have : T - 120 = 0 := by omega
    rw [this, List.take_zero, List.nil_append, List.drop_zero, List.drop_append, List.drop_of_length_le (by rw [List.length_take]; omega), List.nil_append, List.length_take, List.drop_drop]
    congr 1
    omega
  · rw [List.drop_append_of_le_length (by rw [List.length_take]; omega), List.drop_take, List.drop_drop]
    congr 2
    omega
theorem mixed_eq (p q : List UInt8) (t : Int) : ∃ T, T ≤ 128 ∧ mixed p q t = q.take T ++ p.drop T := ⟨_, by omega, rfl⟩
theorem split128 {p : List UInt8} : p = p.take 8 ++ ((p.drop 8).take 112 ++ p.drop 120) := by
  have h1 : p.drop 120 = (p.drop 8).drop 112 := by rw [List.drop_drop]
  rw [h1, List.take_append_drop, List.take_append_drop]
theorem torn_page {G g j k : Nat} {b p : List UInt8} {t : Int} (tm : Tame G j p) (hG : G < g) (hg : g < 256) (hj : j + 1 < 256) (hb : b.length ≤ 110) :
    Tame g j (mixed p (pageW g (j + 1) k b) t) ∧ (mixed p (pageW g (j + 1) k b) t = pageW g (j + 1) k b ∨ mixed p (pageW g (j + 1) k b) t = p ∨ Bad (mixed p (pageW g (j + 1) k b) t)) := by
  have hq := pageW_length (g := g) (p := j + 1) (k := k) hb
  have qh := page_head (g := g) (p := j + 1) (k := k) (b := b) hg hj
  have qt := page_tail (g := g) (p := j + 1) (k := k) hg hj hb
  obtain ⟨hp, hg', hp', tg', tp', a1, a2, a3, a4, ph, pt⟩ := tm
  have hm := mixed_length (t := t) hp hq
  obtain ⟨T, hT, e⟩ := mixed_eq p (pageW g (j + 1) k b) t
  rw [e] at hm ⊢
  generalize pageW g (j + 1) k b = q at *
  have mh := mix_head hp hq hT
  have mt := mix_tail hp hq hT
  rw [qh, ph, mb_mix] at mh
  rw [qt, pt, mb_mix] at mt
  have hpp : hp' < 256 := by omega
  have htp : tp' < 256 := by omega
  by_cases h3 : T < 4
  · rw [if_pos h3] at mh
    rw [if_pos (by omega)] at mt
    refine ⟨⟨hm, hg', hp', tg', tp', by omega, by omega, a3, a4, mh, mt⟩, .inr (.inl ?_)⟩
    have : q.take T = p.take T := by
      have h1 : q.take T = (q.take 8).take T := by rw [List.take_take]; congr 1; omega
      have h2 : p.take T = (p.take 8).take T := by rw [List.take_take]; congr 1; omega
      rw [h1, h2, qh, ph]
      have : T = 0 ∨ T = 1 ∨ T = 2 ∨ T = 3 := by omega
      rcases this with h | h | h | h <;> subst h <;> rfl
    rw [this, List.take_append_drop]
  rw [if_neg h3] at mh
  have bad : ∀ {x y u v : Nat}, x < 256 → y < 256 → u < 256 → v < 256 → (q.take T ++ p.drop T).take 8 = mb x y → (q.take T ++ p.drop T).drop 120 = mb u v → (x ≠ u ∨ y ≠ v) → Bad (q.take T ++ p.drop T) := by
    intro x y u v hx hy hu hv e1 e2 hne
    apply bad_of
    unfold tl9 mk9
    rw [e1, e2, valB_mb hx hy, valB_mb hu hv]
    unfold markN
    omega
  by_cases h7 : T < 8
  · rw [if_pos h7] at mh
    rw [if_pos (by omega)] at mt
    exact ⟨⟨hm, g, hp', tg', tp', Nat.le_refl _, by omega, a3, a4, mh, mt⟩, .inr (.inr (bad hg hpp (by omega) htp mh mt (.inl (by omega))))⟩
  rw [if_neg h7] at mh
  by_cases h123 : T - 120 < 4
  · rw [if_pos h123] at mt
    exact ⟨⟨hm, g, j + 1, tg', tp', Nat.le_refl _, by omega, .inr rfl, a4, mh, mt⟩, .inr (.inr (bad hg hj (by omega) htp mh mt (.inl (by omega))))⟩
  rw [if_neg h123] at mt
  by_cases h127 : T - 120 < 8
  · rw [if_pos h127] at mt
    refine ⟨⟨hm, g, j + 1, g, tp', Nat.le_refl _, Nat.le_refl _, .inr rfl, a4, mh, mt⟩, ?_⟩
    rcases a4 with h | h
    · exact .inr (.inr (bad hg hj hg htp mh mt (.inr (by omega))))
    · subst h
      refine .inl ?_
      have h1 : p.drop T = q.drop T := by
        have e1 : p.drop T = (p.drop 120).drop (T - 120) := by rw [List.drop_drop]; congr 1; omega
        have e2 : q.drop T = (q.drop 120).drop (T - 120) := by rw [List.drop_drop]; congr 1; omega
        rw [e1, e2, pt, qt]
        have : T - 120 = 4 ∨ T - 120 = 5 ∨ T - 120 = 6 ∨ T - 120 = 7 := by omega
        rcases this with h | h | h | h <;> rw [h] <;> rfl
      rw [h1, List.take_append_drop]
  · rw [if_neg h127] at mt
    have : T = 128 := by omega
    subst this
    refine ⟨⟨hm, g, j + 1, g, j + 1, Nat.le_refl _, Nat.le_refl _, .inr rfl, .inr rfl, mh, mt⟩, .inl ?_⟩
    rw [List.take_of_length_le (by omega), List.drop_of_length_le (by omega), List.append_nil]
theorem Tame.gen {G j : Nat} {p : List UInt8} (tm : Tame G j p) (hG : G < 256) (hj : j + 1 < 256) {place least g k : Nat} {b : List UInt8} (h : decW p place least = some (g, k, b)) : g ≤ G := by
  obtain ⟨hp, hg', hp', tg', tp', a1, a2, a3, a4, ph, pt⟩ := tm
  unfold decW at h
  split at h
  · cases h
    unfold mk9
    rw [ph, valB_mb (by omega) (by omega)]
    unfold markN
    omega
  · cases h
theorem decW_least {p : List UInt8} {place least g k : Nat} {b : List UInt8} (h : decW p place least = some (g, k, b)) : least ≤ g := by
  unfold decW at h
  split at h
  · rename_i hh
    cases h
    exact hh.2.2.2.2.2.2
  · cases h
theorem page_gen {g q k : Nat} {b : List UInt8} (hg : g < 4294967296) (hq : q < 4294967296) {place least g' k' : Nat} {b' : List UInt8} (h : decW (pageW g q k b) place least = some (g', k', b')) : g' = g := by
  have e1 : mk9 (pageW g q k b) = markN g q := by
    unfold mk9 pageW
    simp only [List.append_assoc]
    rw [take_num, valB_numB, Nat.mod_eq_of_lt]
    unfold markN
    have : (256 : Nat) ^ 8 = 18446744073709551616 := rfl
    omega
  unfold decW at h
  split at h
  · cases h
    rw [e1]
    unfold markN
    omega
  · cases h
end Go.Proofs.Ytgeoelahfljefaa
