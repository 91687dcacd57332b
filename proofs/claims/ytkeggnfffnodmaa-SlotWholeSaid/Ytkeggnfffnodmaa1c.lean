/- The reference of layer 1: what its functions answer. -/
import Derived.Test.Ytkeggnfffnodmaa1b
import Derived.Test.YtkeggnfffnodmaaFb
import Derived.Test.YtkeggnfffnodmaaRd
import Derived.Test.YtkeggnfffnodmaaSr
set_option linter.unusedVariables false
namespace Go.Proofs.Ytkeggnfffnodmaa
open Go Go.Vc Go.Proofs

/- ### Numbers -/
theorem dg_step (x k : Nat) : x / 256 ^ k / 256 = x / 256 ^ (k + 1) := by rw [Nat.pow_succ, Nat.div_div_eq_div_mul]
theorem dg_byte (x k : Nat) : Value.int .u8 (IntKind.wrap .u8 (((x / 256 ^ k) % 256 : Nat) : Int)) = bv (dg x k) := by
  rw [dg, byte_of_int, wrap_u8]
  congr 1
  omega
def revB (x : Nat) : Nat → List UInt8
  | 0 => []
  | n + 1 => revB x n ++ [dg x n]
theorem revB_length (x : Nat) : ∀ n, (revB x n).length = n
  | 0 => rfl
  | n + 1 => by simp [revB, revB_length x n]
theorem revB_get (x : Nat) : ∀ {n i : Nat}, i < n → (revB x n)[i]? = some (dg x i)
  | n + 1, i, hi => by
    unfold revB
    by_cases hin : i = n
    · subst hin
      rw [List.getElem?_append_right (by rw [revB_length]; exact Nat.le_refl _), revB_length, Nat.sub_self]; rfl
    · rw [List.getElem?_append_left (by rw [revB_length]; omega)]
      exact revB_get x (by omega)
theorem rnumber_ok {h : Heap} (x n : Nat) (hx : x < 18446744073709551616) (hn : n ≤ 8) :
    CallsH Try.prog n_ref01_Number #[.int .u64 x, .int .i64 n] h fun v h' => ∃ p l c, v = .slice p l c ∧ New h h' [own 1 p l c (bcs (numB x n))] := by
  refine C_ref01_Number x n ?_
  unfold F_ref01_Number
  refine ⟨fun t h' => ∃ (k : Nat), t.2.2 = (k : Int) ∧ k ≤ n ∧ t.1 = ((x / 256 ^ k : Nat) : Int) ∧ St h h' [own 1 t.2.1.1 t.2.1.2.1 t.2.1.2.2 (bcs (revB x k))], fun t _ => n - t.2.2.toNat, ⟨0, rfl, by omega, by simp, (St.start h).nil 1⟩, ?_⟩
  rintro ⟨y, ⟨p, l, c⟩, i⟩ h3 ⟨k, hi, hk, hy, s⟩
  simp only at hi hy s ⊢
  subst hi; subst hy
  have hlen := s.len
  rw [bcs_length, revB_length] at hlen
  rw [br_decide]
  refine ⟨fun hlt => ⟨by omega, ?_⟩, fun hge => ?_⟩
  · have e1 : Int.tmod ((x / 256 ^ k : Nat) : Int) 256 = ((x / 256 ^ k % 256 : Nat) : Int) := rfl
    have e2 : Int.tdiv ((x / 256 ^ k : Nat) : Int) 256 = ((x / 256 ^ k / 256 : Nat) : Int) := rfl
    have hd : x / 256 ^ k / 256 < 18446744073709551616 := Nat.lt_of_le_of_lt (Nat.le_trans (Nat.div_le_self _ _) (Nat.div_le_self _ _)) hx
    have e3 : IntKind.wrap .u64 ((x / 256 ^ k / 256 : Nat) : Int) = ((x / 256 ^ k / 256 : Nat) : Int) := by
      generalize x / 256 ^ k / 256 = z at hd
      rw [wrap_u64]; omega
    have e4 : IntKind.wrap .i64 ((k : Int) + 1) = ((k + 1 : Nat) : Int) := by rw [wrap_i64 (by omega) (by omega)]; omega
    rw [e1, e2, e3, e4, dg_byte]
    refine s.newBlk fun b h5 _ s _ => ?_
    refine St.append (xs := [bv (dg x k)]) s.up1 ⟨rfl, by simp only [src, Nat.one_mul]; exact s.row0 rfl⟩ (by simp [bv_one]) rfl (by omega) (by unfold maxLen; omega) fun p' c' h9 s _ => ⟨by omega, ⟨k + 1, rfl, by omega, by rw [dg_step], ?_⟩, ?_⟩
    · have e : bcs (revB x (k + 1)) = bcs (revB x k) ++ [bv (dg x k)] := by simp [revB, bcs, bv]
      rw [e]
      exact s.up1.drop
    · show n - ((k + 1 : Nat) : Int).toNat < n - (k : Int).toNat
      omega
  · have : k = n := by omega
    subst this
    refine ⟨fun t h' => ∃ (j : Nat) (dn : List UInt8), t.2 = (j : Int) - 1 ∧ j ≤ k ∧ dn ++ numB x j = numB x k ∧ St h h' [own 1 t.1.1 t.1.2.1 t.1.2.2 (bcs dn), own 1 p l c (bcs (revB x k))], fun t _ => (t.2 + 1).toNat, ⟨k, [], by simp only; rw [wrap_i64 (by omega) (by omega)], Nat.le_refl _, rfl, s.nil 1⟩, ?_⟩
    rintro ⟨⟨p2, l2, c2⟩, i⟩ h13 ⟨j, dn, hi, hj, hdn, s⟩
    simp only at hi s ⊢
    subst hi
    rw [br_decide]
    refine ⟨fun hge => ?_, fun hlt => ?_⟩
    · obtain ⟨j, rfl⟩ : ∃ i, j = i + 1 := ⟨j - 1, by omega⟩
      have ej : ((j + 1 : Nat) : Int) - 1 = (j : Int) := by omega
      rw [ej]
      have hlen2 := s.len
      rw [bcs_length] at hlen2
      have hdl : dn.length + (j + 1) = k := by
        have := congrArg List.length hdn
        simpa [numB_length] using this
      have hb : Bs h13 p l (revB x k) := bs_own (c := c) s.up1.at
      obtain ⟨a, rfl, hc⟩ := hb.cell (i := j) (by rw [revB_length]; omega)
      have hcj : (revB x k)[j]'(by rw [revB_length]; omega) = dg x j := by
        have := revB_get x (n := k) (i := j) (by omega)
        rw [List.getElem?_eq_getElem (by rw [revB_length]; omega)] at this
        exact Option.some.inj this
      rw [hcj] at hc
      refine ⟨by omega, by omega, _, by simpa [bv] using hc, ?_⟩
      refine s.newBlk fun b h17 _ s _ => ?_
      refine St.append (xs := [bv (dg x j)]) s.up1 ⟨rfl, by simp only [src, Nat.one_mul]; exact s.row0 rfl⟩ (by simp [bv_one]) rfl (by omega) (by unfold maxLen; omega) fun p' c' h9 s _ => ?_
      rw [wrap_i64 (by omega) (by omega)]
      refine ⟨⟨j, dn ++ [dg x j], rfl, by omega, by rw [← hdn, numB]; simp, ?_⟩, by show ((j : Int) - 1 + 1).toNat < ((j : Int) + 1).toNat; omega⟩
      have e : bcs (dn ++ [dg x j]) = bcs dn ++ [bv (dg x j)] := by simp [bcs, bv]
      rw [e]
      exact s.up1.drop
    · have : j = 0 := by omega
      subst this
      simp only [numB, List.append_nil] at hdn
      subst hdn
      exact ⟨p2, l2, c2, rfl, s.up1.drop.new ⟨owns_own, trivial⟩⟩
theorem value_ok {h : Heap} {p : Option Addr} {l c : Nat} {bs : List UInt8} (hb : Bs h p l bs) (hl : l ≤ 8) :
    CallsH Try.prog n_ref01_Value #[.slice p l c] h fun v h' => v = .int .u64 (valB bs) ∧ h' = h := by
  refine C_ref01_Value p l c ?_
  unfold F_ref01_Value
  have hbl := hb.1
  refine ⟨fun t h' => h' = h ∧ ∃ k : Nat, t.2 = k ∧ k ≤ l ∧ t.1 = ((valB (bs.take k) : Nat) : Int), fun t _ => l - t.2.toNat, ⟨rfl, 0, rfl, by omega, by simp [valB]⟩, ?_⟩
  rintro ⟨x, i⟩ h3 ⟨rfl, k, hi, hk, hx⟩
  simp only at hi hx ⊢
  subst hi; subst hx
  rw [br_decide]
  refine ⟨fun hlt => ⟨by omega, hlt, ?_⟩, fun hge => ⟨?_, by trivial⟩⟩
  · obtain ⟨a, rfl, hcell⟩ := hb.cell (i := k) (by omega)
    refine ⟨_, by simpa [bv] using hcell, ?_⟩
    have hv : valB (bs.take k) < 2 ^ 56 := by
      have := valB_le (bs := bs.take k) (n := 7) (by simp; omega)
      exact Nat.lt_of_lt_of_le this (by decide)
    have hb8 := u8_lt (bs[k]'(by omega))
    have e : IntKind.wrap .u64 (IntKind.wrap .u64 (((valB (bs.take k) : Nat) : Int) * 256) + IntKind.wrap .u64 ((bs[k]'(by omega)).toNat : Int)) = ((valB (bs.take (k + 1)) : Nat) : Int) := by
      rw [valB_take (by omega), wrap_u64, wrap_u64, wrap_u64]; omega
    rw [e, wrap_i64 (by omega) (by omega)]
    exact ⟨⟨by trivial, k + 1, by omega, by omega, rfl⟩, by show l - ((k : Int) + 1).toNat < l - (k : Int).toNat; omega⟩
  · have : k = l := by omega
    subst this
    rw [List.take_of_length_le (by omega)]
def sizeK (k : Int) : Nat := if k = 1 ∨ k = 5 then 1 else if k = 2 ∨ k = 8 then 2 else if k = 3 then 4 else if k = 4 then 8 else 0
/- ### Fields -/
structure Fld where
  k : Int
  x : Nat
  b : List UInt8
/-- A field's cells. -/
def FldR (h : Heap) (cs : List Value) (f : Fld) : Prop := ∃ p l c, cs = [.int .i64 f.k, .int .u64 (f.x : Int), .slice p l c] ∧ l ≤ c ∧ c ≤ maxLen ∧ Bs h p l f.b ∧ f.x < 18446744073709551616 ∧ -9223372036854775808 ≤ f.k ∧ f.k ≤ 9223372036854775807
def Flds (h : Heap) (p : Option Addr) (n : Nat) (fs : List Fld) : Prop := ∃ rows : List (List Value), rows.length = n ∧ fs.length = n ∧ Rd h 3 p n rows.flatten ∧ ∀ i (h1 : i < rows.length) (h2 : i < fs.length), FldR h rows[i] fs[i]
theorem FldR.ext {h h' : Heap} {cs : List Value} {f : Fld} (r : FldR h cs f) (e : Ext h h') : FldR h' cs f := by
  obtain ⟨p, l, c, a, b, b2, d, g⟩ := r
  exact ⟨p, l, c, a, b, b2, d.ext e, g⟩
theorem Flds.ext {h h' : Heap} {p : Option Addr} {n : Nat} {fs : List Fld} (r : Flds h p n fs) (e : Ext h h') : Flds h' p n fs := by
  obtain ⟨rows, a, b, c, d⟩ := r
  exact ⟨rows, a, b, c.ext e, fun i h1 h2 => (d i h1 h2).ext e⟩
theorem Flds.len {h : Heap} {p : Option Addr} {n : Nat} {fs : List Fld} (r : Flds h p n fs) : fs.length = n := r.choose_spec.2.1
theorem Flds.get {h : Heap} {p : Option Addr} {n : Nat} {fs : List Fld} (r : Flds h p n fs) {i : Nat} (hi : i < n) : ∃ b o q l c, ∃ h2 : i < fs.length, p = some (Addr.mk b o none) ∧
    cell h (Addr.mk b (o + i * 3) none) = some (.int .i64 fs[i].k) ∧ cell h (Addr.mk b (o + i * 3 + 1) none) = some (.int .u64 (fs[i].x : Int)) ∧ cell h (Addr.mk b (o + i * 3 + 2) none) = some (.slice q l c) ∧ l ≤ c ∧ c ≤ maxLen ∧ Bs h q l fs[i].b ∧ fs[i].x < 18446744073709551616 ∧ -9223372036854775808 ≤ fs[i].k ∧ fs[i].k ≤ 9223372036854775807 ∧
    row h (Addr.mk b (o + i * 3) none) 3 = some #[.int .i64 fs[i].k, .int .u64 (fs[i].x : Int), .slice q l c] := by
  obtain ⟨rows, h1, h2, h3, h4⟩ := r
  have hsz : ∀ r ∈ rows, r.length = 3 := fun r hr => by
    obtain ⟨j, hj, rfl⟩ := List.mem_iff_getElem.1 hr
    obtain ⟨_, _, _, e, _⟩ := h4 j hj (by omega)
    rw [e]; rfl
  obtain ⟨b, o, e, hc⟩ := rows_get h3 h1 hsz (by omega) hi
  obtain ⟨q, l, c, er, hlc, hcm, hb, hx, hk⟩ := h4 i (by omega) (by omega)
  have c0 := hc 0 (by omega) (by omega) (by rw [er]; simp)
  have c1 := hc 1 (by omega) (by omega) (by rw [er]; simp)
  have c2 := hc 2 (by omega) (by omega) (by rw [er]; simp)
  simp only [er, List.getElem_cons_zero, List.getElem_cons_succ, Nat.add_zero] at c0 c1 c2
  refine ⟨b, o, q, l, c, by omega, e, c0, c1, c2, hlc, hcm, hb, hx, hk.1, hk.2, ?_⟩
  have := row_of (h := h) (a := Addr.mk b (o + i * 3) none) [.int .i64 fs[i].k, .int .u64 (fs[i].x : Int), .slice q l c] fun j hj => by
    rw [add_mk]
    match j, hj with
    | 0, _ => simpa using c0
    | 1, _ => simpa using c1
    | 2, _ => simpa using c2
  simpa using this

def bytesF (f : Fld) : List UInt8 × Bool :=
  if f.k = 1 then (numB f.x 1, decide (f.x ≤ 255)) else if f.k = 2 then (numB f.x 2, decide (f.x ≤ 65535)) else if f.k = 3 then (numB (f.x % 4294967296) 4, true) else if f.k = 4 then (numB f.x 8, true)
  else if f.k = 5 then (numB (f.x % 2) 1, true) else if f.k = 6 then (f.b, true) else if f.k = 7 then (if 8192 < f.b.length then ([], false) else (numB f.b.length 2 ++ f.b, true)) else if f.k = 8 then (numB f.x 2, decide (f.x ≤ 4096)) else ([], true)
end Go.Proofs.Ytkeggnfffnodmaa
