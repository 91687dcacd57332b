/- Layer 18: sizes of what is decoded. -/
import Derived.Test.YthlmiijlhiiccaaGreatdg
import Derived.Test.YthlmiijlhiiccaaGreatmi
set_option linter.unusedVariables false
set_option linter.unusedSimpArgs false
set_option maxRecDepth 100000
namespace Go.Proofs.YthlmiijlhiiccaaGreat
open Go Go.Vc Go.Proofs Go.Vc.Keys
theorem strR_le (bs : Bytes) (f : Bool) (most : Int) : (strR bs f most).1.length ≤ 8192 := by
  unfold strR
  split
  · rename_i hc
    obtain ⟨_, _, _, h4, _⟩ := hc
    show ((bs.drop 2).take (valB (bs.take 2))).length ≤ 8192
    rw [List.length_take]
    omega
  · exact Nat.zero_le _
theorem countR_most (bs : Bytes) (f : Bool) : (countR bs f 4096).1 ≤ 4096 := by
  unfold countR
  split
  · rename_i hc
    exact hc.2.2.2
  · exact Nat.zero_le _
theorem decIt_le {α : Type} {d : Dec α} {Q : α → Prop} (hd : ∀ bs f, Q (d bs f).1) : ∀ (n : Nat) (acc : List α) (bs : Bytes) (f : Bool), (∀ x ∈ acc, Q x) → (decIt d n acc bs f).1.length ≤ acc.length + n ∧ ∀ x ∈ (decIt d n acc bs f).1, Q x
  | 0, acc, bs, f, h => ⟨Nat.le_refl _, h⟩
  | n + 1, acc, bs, f, h => by
    unfold decIt
    split
    · exact ⟨Nat.zero_le _, fun x hx => by cases hx⟩
    · have := decIt_le hd n (acc ++ [(d bs f).1]) (d bs f).2.1 (d bs f).2.2 (fun x hx => by
        rcases List.mem_append.1 hx with hx | hx
        · exact h x hx
        · rw [List.mem_singleton.1 hx]; exact hd bs f)
      rw [List.length_append] at this
      exact ⟨by have := this.1; simp only [List.length_singleton] at this; omega, this.2⟩
theorem decL_le {α : Type} {d : Dec α} {Q : α → Prop} (hd : ∀ bs f, Q (d bs f).1) (bs : Bytes) (f : Bool) : (decL d bs f).1.length ≤ 5000 ∧ ∀ x ∈ (decL d bs f).1, Q x := by
  have := decIt_le hd (countR bs f 4096).1 [] (countR bs f 4096).2.1 (countR bs f 4096).2.2 (fun x hx => by cases hx)
  have h2 := countR_most bs f
  exact ⟨by have h1 := this.1; simp only [List.length_nil] at h1; unfold decL; omega, this.2⟩
theorem decL_len {α : Type} (d : Dec α) (bs : Bytes) (f : Bool) : (decL d bs f).1.length ≤ 5000 := (decL_le (d := d) (Q := fun _ => True) (fun _ _ => trivial) bs f).1
theorem decT_le (bs : Bytes) (f : Bool) : (decT bs f).1.length ≤ 20000 := Nat.le_trans (strR_le bs f 64) (by decide)
theorem decV_le (bs : Bytes) (f : Bool) : (decV bs f).1.value.length ≤ 20000 := decT_le _ _
theorem decW_le (bs : Bytes) (f : Bool) : (decW bs f).1.label.length ≤ 20000 ∧ (decW bs f).1.v.value.length ≤ 20000 := ⟨decT_le _ _, decV_le _ _⟩
theorem decG_le (bs : Bytes) (f : Bool) : (decG bs f).1.sig.length ≤ 20000 := by
  unfold decG
  split
  · split
    · exact Nat.zero_le _
    · exact Nat.le_trans (strR_le _ _ 8192) (by decide)
  · exact Nat.zero_le _
theorem decEnd_steps (steps : List Stp) (bs : Bytes) (f : Bool) : (decEnd steps bs f).1.steps = steps := by
  unfold decEnd
  dsimp only
  split
  · rfl
  split
  · rfl
  split
  · rfl
  · rfl
theorem decPr_le (bs : Bytes) (f : Bool) : (decPr bs f).1.steps.length ≤ 5000 := by
  show (decEnd (decL decS bs f).1 _ _).1.steps.length ≤ 5000
  rw [decEnd_steps]
  exact decL_len _ _ _
/-- Sizes that a message which is decoded has. -/
structure Fit (m : Ms) : Prop where
  small : Small m
  short : Short m
theorem zero_fit (k : Int) : Fit { zeroMs with kind := k } :=
  ⟨⟨Nat.zero_le _, ⟨Nat.zero_le _, Nat.zero_le _⟩, ⟨Nat.zero_le _, Nat.zero_le _⟩, Nat.zero_le _, Nat.zero_le _, Nat.zero_le _, Nat.zero_le _, Nat.zero_le _⟩,
   ⟨Nat.zero_le _, Nat.zero_le _, fun x hx => (by cases hx), fun x hx => (by cases hx)⟩⟩
theorem decF_fit {m : Ms} (a : Fit m) (i : Nat) (bs : Bytes) (f : Bool) : Fit (decF m i bs f).1 := by
  obtain ⟨⟨a1, a2, a3, a4, a5, a6, a7, a8⟩, ⟨b1, b2, b3, b4⟩⟩ := a
  rcases i with _ | _ | _ | _ | _ | _ | _ | _ | _ | _ | _ | _ | _ | _ | _ | _ | _ | i
  · exact ⟨⟨a1, a2, a3, a4, a5, a6, a7, a8⟩, ⟨b1, b2, b3, b4⟩⟩
  · exact ⟨⟨a1, a2, a3, a4, a5, a6, a7, a8⟩, ⟨b1, b2, b3, b4⟩⟩
  · exact ⟨⟨a1, a2, a3, a4, a5, a6, a7, a8⟩, ⟨b1, b2, b3, b4⟩⟩
  · exact ⟨⟨a1, a2, a3, a4, a5, a6, a7, a8⟩, ⟨b1, b2, b3, b4⟩⟩
  · exact ⟨⟨a1, a2, a3, a4, a5, a6, a7, a8⟩, ⟨b1, b2, b3, b4⟩⟩
  · exact ⟨⟨a1, a2, a3, a4, a5, a6, a7, a8⟩, ⟨b1, b2, b3, b4⟩⟩
  · exact ⟨⟨a1, a2, a3, a4, a5, a6, a7, a8⟩, ⟨decT_le bs f, b2, b3, b4⟩⟩
  · exact ⟨⟨a1, a2, a3, a4, a5, a6, a7, a8⟩, ⟨b1, decT_le bs f, b3, b4⟩⟩
  · exact ⟨⟨decG_le bs f, a2, a3, a4, a5, a6, a7, a8⟩, ⟨b1, b2, b3, b4⟩⟩
  · exact ⟨⟨a1, ⟨decL_len decH bs f, decL_len decH _ _⟩, a3, a4, a5, a6, a7, a8⟩, ⟨b1, b2, b3, b4⟩⟩
  · exact ⟨⟨a1, a2, ⟨decL_len decH bs f, decL_len decH _ _⟩, a4, a5, a6, a7, a8⟩, ⟨b1, b2, b3, b4⟩⟩
  · exact ⟨⟨a1, a2, a3, a4, a5, a6, a7, a8⟩, ⟨b1, b2, b3, b4⟩⟩
  · exact ⟨⟨a1, a2, a3, decPr_le bs f, a5, a6, a7, a8⟩, ⟨b1, b2, b3, b4⟩⟩
  · have := decL_le (d := decV) (Q := fun x => x.value.length ≤ 20000) decV_le bs f
    exact ⟨⟨a1, a2, a3, a4, this.1, a6, a7, a8⟩, ⟨b1, b2, this.2, b4⟩⟩
  · exact ⟨⟨a1, a2, a3, a4, a5, decL_len decR bs f, a7, a8⟩, ⟨b1, b2, b3, b4⟩⟩
  · have := decL_le (d := decW) (Q := fun x => x.label.length ≤ 20000 ∧ x.v.value.length ≤ 20000) decW_le bs f
    exact ⟨⟨a1, a2, a3, a4, a5, a6, this.1, a8⟩, ⟨b1, b2, b3, this.2⟩⟩
  · exact ⟨⟨a1, a2, a3, a4, a5, a6, a7, decL_len decH bs f⟩, ⟨b1, b2, b3, b4⟩⟩
  · exact ⟨⟨a1, a2, a3, a4, a5, a6, a7, a8⟩, ⟨b1, b2, b3, b4⟩⟩
theorem decFs_fit : ∀ (is : List Nat) {m : Ms} (bs : Bytes) (f : Bool), Fit m → Fit (decFs is m bs f).1
  | [], m, bs, f, a => a
  | i :: is, m, bs, f, a => by
    unfold decFs
    split
    · exact a
    · exact decFs_fit is _ _ (decF_fit a i bs f)
theorem decM_fit {b : Bytes} {m : Ms} (h : decM b = some m) : Fit m := by
  unfold decM at h
  split at h
  · cases h
  split at h
  · rw [← Option.some.inj h]
    exact decFs_fit _ _ _ (zero_fit _)
  · cases h
end Go.Proofs.YthlmiijlhiiccaaGreat
