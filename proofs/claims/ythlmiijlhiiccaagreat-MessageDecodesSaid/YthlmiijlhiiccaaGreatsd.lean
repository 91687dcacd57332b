/- Layer 18: a message with one field otherwise. -/
import Derived.Test.YthlmiijlhiiccaaGreatsc
import Derived.Test.YthlmiijlhiiccaaGreatdf
import Derived.Test.YthlmiijlhiiccaaGreatmk
set_option linter.unusedVariables false
set_option linter.unusedSimpArgs false
set_option maxRecDepth 100000
namespace Go.Proofs.YthlmiijlhiiccaaGreat
open Go Go.Vc Go.Proofs Go.Vc.Keys
theorem xor_range (n : Int) : I64 (xorI .i64 n 1) := by
  unfold xorI I64 IntKind.wrap
  simp only [IntKind.bits, IntKind.signed]
  generalize ((BitVec.ofInt 64 n ^^^ BitVec.ofInt 64 1).toNat : Int) = x
  simp
  split <;> omega
theorem xor_ne (n : Int) : xorI .i64 n 1 ≠ n := by
  intro h
  have h1 : BitVec.ofInt 64 (xorI .i64 n 1) = BitVec.ofInt 64 n ^^^ 1#64 := by
    unfold xorI
    show BitVec.ofInt 64 (IntKind.wrap .i64 ((BitVec.ofInt 64 n ^^^ 1#64).toNat : Int)) = _
    generalize BitVec.ofInt 64 n ^^^ 1#64 = x
    apply BitVec.eq_of_toNat_eq
    have hx := x.isLt
    rw [BitVec.toNat_ofInt]
    unfold IntKind.wrap
    simp only [IntKind.bits, IntKind.signed]
    simp
    split <;> omega
  rw [h] at h1
  have h2 := congrArg (fun z => BitVec.ofInt 64 n ^^^ z) h1
  simp only [← BitVec.xor_assoc, BitVec.xor_self, BitVec.zero_xor] at h2
  exact absurd h2 (by decide)
def flip1 (b : UInt8) : UInt8 := b ^^^ 1
theorem flip1_val (b : UInt8) : Value.int .u8 (xorI .u8 (b.toNat : Int) 1) = bv (flip1 b) := by
  have h := xorI_u8 (a := b.toNat) (b := 1) (u8_lt b) (by omega)
  have e : (flip1 b).toNat = b.toNat ^^^ 1 := by unfold flip1; rw [UInt8.toNat_xor]; rfl
  show Value.int .u8 (xorI .u8 (b.toNat : Int) ((1 : Nat) : Int)) = Value.int .u8 ((flip1 b).toNat : Int)
  rw [h, e]
theorem flip1_ne (b : UInt8) : flip1 b ≠ b := by
  intro e
  have h := congrArg UInt8.toNat e
  have e2 : (flip1 b).toNat = b.toNat ^^^ 1 := by unfold flip1; rw [UInt8.toNat_xor]; rfl
  rw [e2] at h
  have key : ∀ x : Fin 256, (x.val ^^^ 1) ≠ x.val := by decide +kernel
  exact key ⟨b.toNat, u8_lt b⟩ h
theorem set_lay {cs : List Value} {i t : Nat} {x : Bytes} {b' : UInt8} (hx : x.length = 32) (ht : t < 32) (hi : i + 32 ≤ cs.length) (hc : (cs.drop i).take 32 = bcs x) : cs.set (i + t) (bv b') = lay cs i (bcs (x.set t b')) := by
  apply List.ext_getElem?
  intro j
  have hl : (bcs (x.set t b')).length = 32 := by rw [bcs_length, List.length_set, hx]
  rw [lay_get (by omega), hl, List.getElem?_set]
  by_cases h1 : i + t = j
  · subst h1
    rw [if_pos rfl, if_pos (by omega), if_neg (by omega), if_pos (by omega), Nat.add_sub_cancel_left]
    have : t < (x.set t b').length := by rw [List.length_set]; omega
    rw [bcs_get this]
    simp
    rfl
  · rw [if_neg h1]
    by_cases h2 : j < i
    · rw [if_pos h2]
    · rw [if_neg h2]
      by_cases h3 : j < i + 32
      · rw [if_pos h3]
        have hj : ((cs.drop i).take 32)[j - i]? = cs[j]? := by
          rw [List.getElem?_take, if_pos (by omega), List.getElem?_drop]
          congr 1; omega
        rw [← hj, hc]
        unfold bcs
        rw [List.getElem?_map, List.getElem?_map, List.getElem?_set, if_neg (by omega)]
      · rw [if_neg h3]
theorem set_ne {x : Bytes} {t : Nat} (ht : t < x.length) : x.set t (flip1 x[t]) ≠ x := by
  intro e
  have h := congrArg (fun l => l[t]?) e
  simp only [List.getElem?_set, if_pos ht, List.getElem?_eq_getElem ht] at h
  simp at h
  exact flip1_ne _ h
theorem lay_lay {cs w : List Value} {i j n : Nat} (hn : i + n ≤ cs.length) (hw : j + w.length ≤ n) : lay cs i (lay ((cs.drop i).take n) j w) = lay cs (i + j) w := by
  apply List.ext_getElem?
  intro t
  have hc : ((cs.drop i).take n).length = n := by simp; omega
  have hl : (lay ((cs.drop i).take n) j w).length = n := by rw [lay_length (by omega), hc]
  have A := lay_get (vs := cs) (l := lay ((cs.drop i).take n) j w) (i := i) (t := t) (by omega)
  have B := lay_get (vs := cs) (l := w) (i := i + j) (t := t) (by omega)
  have C := lay_get (vs := (cs.drop i).take n) (l := w) (i := j) (t := t - i) (by omega)
  rw [A, B, hl]
  by_cases h1 : t < i
  · rw [if_pos h1, if_pos (show t < i + j by omega)]
  · rw [if_neg h1]
    by_cases h2 : t < i + n
    · rw [if_pos h2, C]
      have hget : ((cs.drop i).take n)[t - i]? = cs[t]? := by
        rw [List.getElem?_take, if_pos (by omega), List.getElem?_drop]
        congr 1; omega
      by_cases h3 : t < i + j
      · rw [if_pos (show t - i < j by omega), if_pos (show t < i + j by omega), hget]
      · rw [if_neg (show ¬ t - i < j by omega), if_neg (show ¬ t < i + j by omega)]
        by_cases h4 : t < i + j + w.length
        · rw [if_pos (show t - i < j + w.length by omega), if_pos h4]
          congr 1; omega
        · rw [if_neg (show ¬ t - i < j + w.length by omega), if_neg h4, hget]
    · rw [if_neg h2, if_neg (show ¬ t < i + j by omega), if_neg (show ¬ t < i + j + w.length by omega)]
theorem prR_value {h : Heap} {c : List Value} {p : Prf} {v : Bytes} (r : PrR h c p) (hv : v.length = 32) : PrR h (lay c 34 (bcs v)) { p with value := v } := by
  have hl := r.len
  have hb : (bcs v).length = 32 := by rw [bcs_length, hv]
  have hi : 34 + (bcs v).length ≤ c.length := by omega
  obtain ⟨s, hs, ls⟩ := r.steps
  obtain ⟨a1, a2, a3, a4, a5⟩ := r.lens
  exact ⟨by rw [lay_length hi, hl], ⟨s, by rw [lay_get hi, if_pos (by omega)]; exact hs, ls⟩, by rw [lay_get hi, if_pos (by omega)]; exact r.en, by rw [lay_else hi (by omega)]; exact r.key, lay_same hi hb,
    by rw [lay_else hi (by omega)]; exact r.p, by rw [lay_else hi (by omega)]; exact r.left, by rw [lay_else hi (by omega)]; exact r.right, ⟨a1, hv, a3, a4, a5⟩, r.int⟩
/-- One field is otherwise. -/
def Other (h h' : Heap) (b23 b0 : Nat) (cs : List Value) (m : Ms) : Prop := ∃ cs' m' G, St h h' (pts b23 0 false cs' :: pts b0 0 false cs :: G) ∧ MsR h' cs' m' ∧ m ≠ m' ∧ Small m'
section
variable {h hh : Heap} {G : List HP} {cs : List Value} {m : Ms} {b23 b0 : Nat}
theorem other1 {k o : Nat} {v : Value} {m' : Ms} (hk : k < 18) (h1 : siz18 k = 1) (hoff : o = off18 k) (hs : St h hh (pts b23 0 false cs :: pts b0 0 false cs :: G)) (hx : MsR h cs m) (ho : v.oneCell' = true)
    (hp : ∀ h', St h h' (pts b23 0 false (cs.set o v) :: pts b0 0 false cs :: G) → Part h' [v] m' k) (keep : ∀ h c j, j ≠ k → Part h c m j → Part h c m' j) (hne : m ≠ m') (sm : Small m') {Kx : Heap → Prop} (hK : ∀ h', Other h h' b23 b0 cs m → Kx h') : Vc.storeP none hh (Addr.mk b23 o none) v Kx := by
  have hlen := hx.len
  have hin := parts_in k hk
  refine hs.store0 (by omega) ho fun h' s => hK h' ⟨cs.set o v, m', G, s, ?_, hne, sm⟩
  have e : cs.set o v = lay cs o [v] := by rw [← lay_cons (l := []) (by omega), lay_nil]
  rw [e, hoff]
  exact msR_lay hk (keeps_Ms _ _ _ _ s.ext hx) (by rw [h1]; rfl) (ones_cons ho ones_nil) (hp h' s) keep
end
end Go.Proofs.YthlmiijlhiiccaaGreat
