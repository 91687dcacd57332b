/- Layer 10: pages of a slot that were torn (no program in sight). -/
import Derived.Test.YtbmhphnidfpclaaL9
set_option linter.unusedVariables false
set_option maxRecDepth 100000
namespace Go.Proofs.Ytbmhphnidfpclaa
open Go Go.Vc Go.Proofs
/-- A page over which parts of pages of the number n were laid; below there is one of the number m. -/
def Torn (P : List UInt8) (m n : Nat) : Prop := P.length = 128 ∧ (P.getD 127 0).toNat = m % 256 ∧ (P.take 8 = numB n 8 ∨ tailB P = m)
theorem tail_last {P : List UInt8} (h : P.length = 128) : tailB P % 256 = (P.getD 127 0).toNat := by
  have e : P.drop 120 = (P.drop 120).take 7 ++ [P.getD 127 0] := by
    have h1 : (P.drop 120).length = 8 := by rw [List.length_drop]; omega
    have h2 := List.take_succ_eq_append_getElem (l := P.drop 120) (i := 7) (by omega)
    rw [List.take_of_length_le (by omega)] at h2
    rw [h2]
    congr 2
    rw [List.getElem_drop, List.getD_eq_getElem?_getD, List.getElem?_eq_getElem (by omega)]
    rfl
  have hb := u8_lt (P.getD 127 0)
  unfold tailB
  rw [e, valB_append]
  omega
theorem slt_dec {P : List UInt8} {m n s : Nat} {x : List UInt8} (h : Torn P m n) (hn : n = m + 1 ∨ n = m + 2) (hlt : n < 18446744073709551616) (hd : decB P = some (s, x)) : s = m := by
  obtain ⟨h1, h2, h3⟩ := h
  unfold decB at hd
  split at hd
  · rename_i hc
    cases hd
    rcases h3 with h3 | h3
    · have hh : headB P = n := by unfold headB; rw [h3, valB_numB, Nat.mod_eq_of_lt (by simpa using hlt)]
      have ht := tail_last h1
      rw [h2, hc.2.1, hh] at ht
      omega
    · rw [← hc.2.1, h3]
  · cases hd
theorem slt_page {s n : Nat} {v : List UInt8} (hs : s < 18446744073709551616) (hv : v.length ≤ 110) : Torn (pageB s v) s n := by
  have hl := pageB_length (s := s) hv
  refine ⟨hl, ?_, .inr (tailB_page hs hv)⟩
  rw [← tail_last hl, tailB_page hs hv]
theorem slt_zero {n : Nat} : Torn (List.replicate 128 0) 0 n := ⟨by simp, by decide, .inr (by decide)⟩
theorem slt_mixed {P x : List UInt8} {m n : Nat} {t : Int} (h : Torn P m n) (hx : x.length ≤ 110) (ht : t < 128) : Torn (mixed P (pageB n x) t) m n := by
  obtain ⟨h1, h2, h3⟩ := h
  have hl := pageB_length (s := n) hx
  have hml := mixed_length h1 hl (t := t)
  have hlast : (mixed P (pageB n x) t).getD 127 0 = P.getD 127 0 := by
    rw [List.getD_eq_getElem?_getD, List.getElem?_eq_getElem (by omega), mixed_get h1 hl (by omega), if_neg (by omega), List.getD_eq_getElem?_getD, List.getElem?_eq_getElem (by omega)]
  refine ⟨hml, by rw [hlast]; exact h2, ?_⟩
  have hhead : (pageB n x).take 8 = numB n 8 := by
    unfold pageB
    simp only [List.append_assoc]
    exact take_num _ _ _
  by_cases h8 : 8 ≤ t
  · left
    unfold mixed
    rw [List.take_append_of_le_length (by rw [List.length_take]; omega), List.take_take, Nat.min_eq_left (by omega), hhead]
  · rcases h3 with h3 | h3
    · left
      apply List.ext_getElem
      · rw [List.length_take, numB_length]; omega
      · intro i i1 i2
        rw [numB_length] at i2
        rw [List.getElem_take, mixed_get h1 hl (by omega)]
        have e1 : (numB n 8)[i]'(by rw [numB_length]; exact i2) = (pageB n x)[i]'(by omega) := by
          have := congrArg (fun l => l[i]?) hhead
          simp only [List.getElem?_take, if_pos i2] at this
          rw [List.getElem?_eq_getElem (by omega), List.getElem?_eq_getElem (by rw [numB_length]; exact i2)] at this
          exact (Option.some.inj this).symm
        have e2 : (numB n 8)[i]'(by rw [numB_length]; exact i2) = P[i]'(by omega) := by
          have := congrArg (fun l => l[i]?) h3
          simp only [List.getElem?_take, if_pos i2] at this
          rw [List.getElem?_eq_getElem (by omega), List.getElem?_eq_getElem (by rw [numB_length]; exact i2)] at this
          exact (Option.some.inj this).symm
        split
        · exact e1.symm
        · exact e2.symm
    · right
      rw [← h3]
      unfold tailB
      congr 1
      unfold mixed
      rw [List.drop_append, List.drop_of_length_le (by rw [List.length_take]; omega), List.nil_append, List.drop_drop, List.length_take]
      congr 1
      omega
end Go.Proofs.Ytbmhphnidfpclaa
