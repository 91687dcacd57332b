/- Layer 9: the records that are found are those that were appended (no program in sight). -/
import Derived.Test.Ytgeoelahfljefaa9d
import Derived.Test.YtgeoelahfljefaaL8
set_option linter.unusedVariables false
set_option maxRecDepth 100000
namespace Go.Proofs.Ytgeoelahfljefaa
open Go Go.Vc Go.Proofs
def zeroP : List UInt8 := List.replicate 128 0
theorem numB_one {k : Nat} (hk : k < 256) : valB (numB k 1) = k := by rw [valB_numB, Nat.mod_eq_of_lt (by omega)]
theorem decW_page {g p k least : Nat} {b : List UInt8} (hb : b.length ≤ 110) (hp : p < 4294967296) (hg : g < 4294967296) (hk : k ≤ 3) (hw : b.length = 110 ∨ k / 2 % 2 = 1) :
    decW (pageW g p k b) p least = if least ≤ g then some (g, k, b) else none := by
  have hm : markN g p < 18446744073709551616 := by unfold markN; omega
  have e1 : mk9 (pageW g p k b) = markN g p := by
    unfold mk9 pageW
    simp only [List.append_assoc]
    rw [take_num, valB_numB, Nat.mod_eq_of_lt (by simpa using hm)]
  have e2 : kd9 (pageW g p k b) = k := by
    unfold kd9 pageW
    simp only [List.append_assoc]
    rw [drop_num, take_num, numB_one (by omega)]
  have hd9 : (pageW g p k b).drop 9 = numB b.length 1 ++ (b ++ (List.replicate (110 - b.length) 0 ++ numB (markN g p) 8)) := by
    have : pageW g p k b = (numB (markN g p) 8 ++ numB k 1) ++ (numB b.length 1 ++ (b ++ (List.replicate (110 - b.length) 0 ++ numB (markN g p) 8))) := by simp [pageW]
    rw [this, List.drop_append, List.drop_of_length_le (by simp [numB_length])]
    simp [numB_length]
  have hd10 : (pageW g p k b).drop 10 = b ++ (List.replicate (110 - b.length) 0 ++ numB (markN g p) 8) := by
    have : (pageW g p k b).drop 10 = ((pageW g p k b).drop 9).drop 1 := by rw [List.drop_drop]
    rw [this, hd9, drop_num]
  have e3 : ct9 (pageW g p k b) = b.length := by
    unfold ct9
    rw [hd9, take_num, numB_one (by omega)]
  have e4 : tx9 (pageW g p k b) = b := by
    unfold tx9
    rw [hd10, e3, List.take_append_of_le_length (Nat.le_refl _), List.take_length]
  have e5 : (pageW g p k b).drop (10 + b.length) = List.replicate (110 - b.length) 0 ++ numB (markN g p) 8 := by
    rw [← List.drop_drop, hd10, List.drop_append, List.drop_of_length_le (Nat.le_refl _), Nat.sub_self]; rfl
  have e6 : tl9 (pageW g p k b) = markN g p := by
    unfold tl9
    have : (pageW g p k b).drop 120 = ((pageW g p k b).drop (10 + b.length)).drop (110 - b.length) := by rw [List.drop_drop]; congr 1; omega
    rw [this, e5, List.drop_append, List.drop_of_length_le (by simp)]
    simp only [List.length_replicate, Nat.sub_self, List.nil_append, List.drop_zero]
    rw [valB_numB, Nat.mod_eq_of_lt (by simpa using hm)]
  have hdiv : markN g p / 4294967296 = g := by unfold markN; omega
  have hmod : markN g p % 4294967296 = p := by unfold markN; omega
  unfold decW
  rw [e1, e2, e3, e4, e5, e6, hdiv, hmod]
  have hz : ∀ x ∈ (List.replicate (110 - b.length) (0 : UInt8) ++ numB (markN g p) 8).take (110 - b.length), x = 0 := by
    rw [List.take_append_of_le_length (by simp), List.take_of_length_le (by simp)]
    intro x hx
    exact (List.mem_replicate.1 hx).2
  by_cases hl : least ≤ g
  · rw [if_pos hl, if_pos ⟨hb, hz, rfl, hw, hk, rfl, hl⟩]
  · rw [if_neg hl, if_neg (fun hh => hl hh.2.2.2.2.2.2)]
theorem decW_zero {p least : Nat} (hp : p ≠ 0) : decW zeroP p least = none := by
  have : mk9 zeroP = 0 := by decide
  rw [decW, if_neg]
  rintro ⟨_, _, _, _, _, h, _⟩
  rw [this] at h
  exact hp (by omega)
/-- The pages of a record, from a part on. -/
def recQ (g at_ : Nat) (b : List UInt8) (N : Nat) : Nat → Nat → List (List UInt8)
  | 0, _ => []
  | k + 1, i => pageW g (at_ + i + 1) (kindN i N) (partB b i) :: recQ g at_ b N k (i + 1)
theorem recQ_length (g at_ : Nat) (b : List UInt8) (N : Nat) : ∀ k i, (recQ g at_ b N k i).length = k
  | 0, _ => rfl
  | k + 1, i => by rw [recQ, List.length_cons, recQ_length g at_ b N k (i + 1)]
def recP (g at_ : Nat) (b : List UInt8) : List (List UInt8) := recQ g at_ b (partsN b.length) (partsN b.length) 0
theorem recP_length (g at_ : Nat) (b : List UInt8) : (recP g at_ b).length = partsN b.length := recQ_length ..
def partsS : List (List UInt8) → Nat
  | [] => 0
  | b :: r => partsN b.length + partsS r
def recsP (g : Nat) : Nat → List (List UInt8) → List (List UInt8)
  | _, [] => []
  | at_, b :: r => recP g at_ b ++ recsP g (at_ + partsN b.length) r
theorem partsS_append : ∀ (a b : List (List UInt8)), partsS (a ++ b) = partsS a + partsS b
  | [], b => by simp [partsS]
  | x :: a, b => by rw [List.cons_append, partsS, partsS, partsS_append a b, Nat.add_assoc]
theorem recsP_append (g : Nat) : ∀ (at_ : Nat) (a b : List (List UInt8)), recsP g at_ (a ++ b) = recsP g at_ a ++ recsP g (at_ + partsS a) b
  | at_, [], b => by simp [recsP, partsS]
  | at_, x :: a, b => by rw [List.cons_append, recsP, recsP, recsP_append g _ a b, partsS, List.append_assoc, Nat.add_assoc]
theorem recsP_length (g : Nat) : ∀ (at_ : Nat) (a : List (List UInt8)), (recsP g at_ a).length = partsS a
  | at_, [] => rfl
  | at_, x :: a => by rw [recsP, List.length_append, recP_length, recsP_length g _ a, partsS]
theorem partsS_snoc (a : List (List UInt8)) (b : List UInt8) : partsS (a ++ [b]) = partsS a + partsN b.length := by rw [partsS_append]; simp [partsS]
theorem recsP_snoc (g at_ : Nat) (a : List (List UInt8)) (b : List UInt8) : recsP g at_ (a ++ [b]) = recsP g at_ a ++ recP g (at_ + partsS a) b := by rw [recsP_append]; simp [recsP]
theorem parts_pos (n : Nat) : 1 ≤ partsN n := by unfold partsN; omega
theorem kindN_first (i N : Nat) : kindN i N % 2 = 1 ↔ i = 0 := by unfold kindN; split <;> split <;> omega
theorem kindN_last (i N : Nat) : kindN i N / 2 % 2 = 1 ↔ i + 1 = N := by unfold kindN; split <;> split <;> omega
theorem take_part (b : List UInt8) (i : Nat) : b.take (110 * i) ++ partB b i = b.take (110 * (i + 1)) := by
  rw [partB, show 110 * (i + 1) = 110 * i + 110 by omega, List.take_add]
theorem part_full {b : List UInt8} {i : Nat} (h : i + 1 < partsN b.length) : (partB b i).length = 110 := by
  unfold partsN at h
  rw [partB, List.length_take, List.length_drop]
  omega
theorem scan_recQ {g at_ : Nat} {b : List UInt8} {rest : List (List UInt8)} (hb : b.length ≤ 6000) (hg : g < 4294967296) (hg1 : 1 ≤ g) (ha : at_ + partsN b.length < 1000000000) : ∀ (k i lst : Nat) (recs : List (List UInt8)) (nx : Nat), i + k = partsN b.length → 1 ≤ k → lst ≤ g →
    scanL (recQ g at_ b (partsN b.length) k i ++ rest) (at_ + i) lst (if i = 0 then 0 else g) (b.take (110 * i)) recs nx = scanL rest (at_ + partsN b.length) g 0 [] (recs ++ [b]) (at_ + partsN b.length)
  | 0, i, _, _, _, _, h, _ => by omega
  | k + 1, i, lst, recs, nx, hik, _, hl => by
    have hkl := kindN_last i (partsN b.length)
    have hkf := kindN_first i (partsN b.length)
    have hdec : decW (pageW g (at_ + i + 1) (kindN i (partsN b.length)) (partB b i)) (at_ + i + 1) lst = some (g, kindN i (partsN b.length), partB b i) := by
      rw [decW_page (partB_len b i) (by omega) hg (kindN_le _ _) ?_, if_pos hl]
      by_cases he : i + 1 = partsN b.length
      · exact .inr (hkl.2 he)
      · exact .inl (part_full (by omega))
    have hlen : (b.take (110 * i) ++ partB b i).length ≤ 6000 := by rw [take_part, List.length_take]; omega
    rw [recQ, List.cons_append, scanL_cons, hdec]
    dsimp only
    rw [if_neg, take_part]
    · by_cases he : i + 1 = partsN b.length
      · obtain rfl : k = 0 := by omega
        rw [if_pos (hkl.2 he), List.take_of_length_le (by unfold partsN at he; omega), ← he]
        rfl
      · rw [if_neg (fun hh => he (hkl.1 hh))]
        have := scan_recQ (rest := rest) hb hg hg1 ha k (i + 1) g recs nx (by omega) (by omega) (Nat.le_refl _)
        rw [if_neg (by omega)] at this
        exact this
    · rintro (h | h | h)
      · apply h
        rw [hkf]
        by_cases h0 : i = 0
        · simp [h0]
        · simp [h0]; omega
      · split at h <;> omega
      · omega
theorem scan_rec {g at_ : Nat} {b : List UInt8} {rest : List (List UInt8)} (hb : b.length ≤ 6000) (hg : g < 4294967296) (hg1 : 1 ≤ g) (ha : at_ + partsN b.length < 1000000000) {lst : Nat} (hl : lst ≤ g) (recs : List (List UInt8)) (nx : Nat) :
    scanL (recP g at_ b ++ rest) at_ lst 0 [] recs nx = scanL rest (at_ + partsN b.length) g 0 [] (recs ++ [b]) (at_ + partsN b.length) := by
  have := scan_recQ (rest := rest) hb hg hg1 ha (partsN b.length) 0 lst recs nx (by omega) (parts_pos _) hl
  simpa [recP] using this
theorem scan_recs {g : Nat} (hg : g < 4294967296) (hg1 : 1 ≤ g) {rest : List (List UInt8)} : ∀ (rs : List (List UInt8)) (at_ lst : Nat) (recs : List (List UInt8)), (∀ b ∈ rs, b.length ≤ 6000) → at_ + partsS rs < 1000000000 → lst ≤ g →
    ∃ lst', lst ≤ lst' ∧ lst' ≤ g ∧ scanL (recsP g at_ rs ++ rest) at_ lst 0 [] recs at_ = scanL rest (at_ + partsS rs) lst' 0 [] (recs ++ rs) (at_ + partsS rs)
  | [], at_, lst, recs, _, _, hl => ⟨lst, Nat.le_refl _, hl, by simp [recsP, partsS]⟩
  | b :: rs, at_, lst, recs, hb, ha, hl => by
    rw [partsS] at ha
    obtain ⟨l', h1, h2, h3⟩ := scan_recs hg hg1 (rest := rest) rs (at_ + partsN b.length) g (recs ++ [b]) (fun x hx => hb x (List.mem_cons_of_mem _ hx)) (by omega) (Nat.le_refl _)
    refine ⟨l', by omega, h2, ?_⟩
    rw [recsP, List.append_assoc, scan_rec (hb b (List.mem_cons_self ..)) hg hg1 (by omega) hl, h3, partsS, Nat.add_assoc]
    simp
theorem scan_zero {n at_ lst bg nx : Nat} {rc : List UInt8} {recs : List (List UInt8)} : scanL (List.replicate n zeroP) at_ lst bg rc recs nx = (recs, nx) := by
  cases n with
  | zero => rfl
  | succ n => rw [List.replicate_succ, scanL_cons, decW_zero (by omega)]
theorem scan_less {g at_ lst nx : Nat} {b : List UInt8} {rest : List (List UInt8)} {rc : List UInt8} {bg : Nat} {recs : List (List UInt8)} (hb : b.length ≤ 6000) (hg : g < 4294967296) (ha : at_ + partsN b.length < 1000000000) (hl : g < lst) :
    scanL (recP g at_ b ++ rest) at_ lst bg rc recs nx = (recs, nx) := by
  have hp := parts_pos b.length
  have he : partsN b.length = (partsN b.length - 1) + 1 := by omega
  unfold recP
  generalize hN : partsN b.length = N at *
  rw [he, recQ, List.cons_append, scanL_cons]
  have hdec : decW (pageW g (at_ + 0 + 1) (kindN 0 (N - 1 + 1)) (partB b 0)) (at_ + 1) lst = none := by
    rw [show at_ + 0 + 1 = at_ + 1 by omega, decW_page (partB_len b 0) (by omega) hg (kindN_le _ _) ?_, if_neg (by omega)]
    by_cases h1 : 0 + 1 = N - 1 + 1
    · exact .inr ((kindN_last _ _).2 h1)
    · exact .inl (part_full (by omega))
  rw [hdec]
end Go.Proofs.Ytgeoelahfljefaa
