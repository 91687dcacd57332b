/- Layer 9: a page of a log, written and read. -/
import Derived.Test.YtgeoelahfljefaaL7
import Derived.Test.YtgeoelahfljefaaL1
import Derived.Test.YtgeoelahfljefaaS
import Derived.Test.YtgeoelahfljefaaFw
set_option linter.unusedVariables false
set_option maxRecDepth 100000
namespace Go.Proofs.Ytgeoelahfljefaa
open Go Go.Vc Go.Proofs
/-- How many parts a record has. -/
def partsN (n : Nat) : Nat := (n - 1) / 110 + 1
theorem parts_ok {h : Heap} (n : Nat) (hn : n ≤ 1000000000) : CallsH Try.prog n_wal_Parts #[.int .i64 n] h fun v h' => v = .int .i64 (partsN n) ∧ h' = h := by
  refine C_wal_Parts n ?_
  unfold F_wal_Parts
  rw [br_decide]
  refine ⟨fun hh => by omega, fun _ => ⟨by omega, ?_, by trivial⟩⟩
  rw [wrap_i64 (n := (n : Int) - 1) (by omega) (by omega)]
  unfold partsN
  by_cases h0 : n = 0
  · subst h0; rfl
  · have e : ((n : Int) - 1) = ((n - 1 : Nat) : Int) := by omega
    rw [e, Int.tdiv_eq_ediv_of_nonneg (by omega), wrap_i64 (n := ((n - 1 : Nat) : Int) / 110) (by omega) (by omega), wrap_i64 (by omega) (by omega)]
    congr 1
theorem rparts_ok {h : Heap} (n : Nat) (hn : n ≤ 1000000000) : CallsH Try.prog n_ref09_Parts #[.int .i64 n] h fun v h' => v = .int .i64 (partsN n) ∧ h' = h := by
  refine C_ref09_Parts n ?_
  unfold F_ref09_Parts
  rw [br_decide]
  refine ⟨fun hh => by omega, fun _ => ?_⟩
  rw [br_beq]
  refine ⟨fun h0 => ⟨?_, by trivial⟩, fun h0 => ?_⟩
  · obtain rfl : n = 0 := by omega
    rfl
  refine ⟨fun st h' => h' = h ∧ ∃ k : Nat, st.2 = k ∧ st.1 = (n : Int) - 110 * k ∧ (k = 0 ∨ 110 * (k - 1) < n), fun st _ => (st.1 + 110).toNat, ⟨by trivial, 0, rfl, by omega, .inl rfl⟩, ?_⟩
  rintro ⟨x, y⟩ h3 ⟨rfl, k, rfl, rfl, hk⟩
  dsimp only
  rw [br_decide]
  refine ⟨fun hgt => ?_, fun hle => ⟨?_, by trivial⟩⟩
  · rw [wrap_i64 (by omega) (by omega), wrap_i64 (by omega) (by omega)]
    exact ⟨⟨by trivial, k + 1, by omega, by omega, .inr (by simp; omega)⟩, by omega⟩
  · unfold partsN
    congr 1
    omega

/- ### Pages -/
def markN (g p : Nat) : Nat := g * 4294967296 + p
theorem or32 {g p : Nat} (hg : g < 4294967296) (hp : p < 4294967296) : orI .u64 (shlI .u64 (g : Int) 32) (IntKind.wrap .u64 (p : Int)) = ((markN g p : Nat) : Int) := by
  have e1 : shlI .u64 (g : Int) 32 = ((g * 4294967296 : Nat) : Int) := by
    unfold shlI
    have : (min (32 : Int).toNat IntKind.u64.bits) = 32 := rfl
    rw [this, wrap_u64]
    omega
  have e2 : IntKind.wrap .u64 (p : Int) = (p : Int) := by rw [wrap_u64]; omega
  rw [e1, e2, orI_u64 (by omega) (by omega)]
  congr 1
  have := Nat.shiftLeft_add_eq_or_of_lt (i := 32) (b := p) (by omega) g
  rw [Nat.shiftLeft_eq] at this
  exact this.symm
def pageW (g p k : Nat) (b : List UInt8) : List UInt8 := numB (markN g p) 8 ++ numB k 1 ++ numB b.length 1 ++ b ++ List.replicate (110 - b.length) 0 ++ numB (markN g p) 8
theorem pageW_length {g p k : Nat} {b : List UInt8} (h : b.length ≤ 110) : (pageW g p k b).length = 128 := by
  simp [pageW, numB_length]; omega
section
variable {h0 h : Heap} {F : List HP} {b n : Nat} {D : Dev}
theorem mark_ok {g p : Nat} (hg : g < 4294967296) (hp : p < 4294967296) (k sl : Value) : CallsH Try.prog n_wal_part_mark #[.agg #[.int .u32 g, .int .i64 p, k, sl]] h fun v h' => v = .int .u64 (markN g p) ∧ Ext h h' := by
  refine C_wal_part_mark #[.int .u32 g, .int .i64 p, k, sl] ?_
  unfold F_wal_part_mark
  refine (St.start h).newBlk fun b h1 _ s e => ?_
  simp only [add_mk, Nat.zero_add]
  refine ⟨_, s.cell0 (i := 0) rfl, by omega, _, s.cell0 (i := 1) rfl, ?_, e⟩
  have e1 : IntKind.wrap .u64 (g : Int) = (g : Int) := by rw [wrap_u64]; omega
  have e2 : IntKind.wrap .u32 (p : Int) = (p : Int) := by rw [wrap_u32]; omega
  rw [e1, e2, or32 hg hp]
theorem page9_ok {xs : List UInt8} {p : Option Addr} {l c : Nat} (hx : Bs h p l xs) (hl : xs.length ≤ 110) {g q k : Nat} (hg : g < 4294967296) (hq : q < 4294967296) (hk : k ≤ 255) :
    CallsH Try.prog n_wal_part_page #[.agg #[.int .u32 g, .int .i64 q, .int .i64 k, .slice p l c]] h fun v h' => ∃ p' l' c', v = .tuple #[.slice p' l' c', .int .i64 0] ∧ New h h' [own 1 p' l' c' (bcs (pageW g q k xs))] := by
  refine C_wal_part_page #[.int .u32 g, .int .i64 q, .int .i64 k, .slice p l c] ?_
  unfold F_wal_part_page
  have hxl := hx.1
  refine (St.start h).newBlk fun b0 h1 _ s _ => s.newBlk fun b2 h3 _ s _ => ?_
  simp only [add_mk, Nat.zero_add]
  refine ⟨_, s.up1.row0 rfl, ?_⟩
  refine (mark_ok hg hq _ _).mono fun v h6 ⟨hv, e⟩ => ⟨e, _, hv, ?_⟩
  have s := W.mk (s.keep e)
  refine (u64_put s _ (by simp)).mono fun v h9 ⟨hv, s⟩ => ⟨hv, _, s.up1.cell0 (i := 2) rfl, ?_⟩
  simp only [putS, List.nil_append] at s
  refine (u8_put s k (by simp [numB_length])).mono fun v h12 ⟨hv, s⟩ => ⟨hv, _, _, _, s.up1.cell0 (i := 3) rfl, ?_⟩
  rw [if_pos (by omega)] at s
  simp only [putS, Int.toNat_natCast] at s
  refine (u8_put s l (by simp [numB_length])).mono fun v h17 ⟨hv, s⟩ => ⟨hv, _, _, _, s.up1.cell0 (i := 3) rfl, ?_⟩
  rw [if_pos (by omega)] at s
  simp only [putS, Int.toNat_natCast] at s
  refine (plain_put (c := c) s (hx.ext s.ext) (by simp [numB_length]; omega)).mono fun v h22 ⟨hv, s⟩ => ⟨hv, _, _, _, s.up1.cell0 (i := 3) rfl, ?_⟩
  simp only [putS] at s
  have hw : IntKind.wrap .i64 (110 - (l : Int)) = ((110 - l : Nat) : Int) := by rw [wrap_i64 (by omega) (by omega)]; omega
  rw [hw]
  refine s.make (z := .int .u8 0) rfl (by omega) (Nat.le_refl _) (by unfold maxLen; omega) (by omega) fun b26 h27 s => ?_
  have ez : List.replicate ((110 - l) * 1) (Value.int .u8 0) = bcs (List.replicate (110 - l) 0) := by rw [bcs_replicate, Nat.mul_one]; rfl
  rw [ez] at s
  simp only [Int.toNat_natCast]
  refine (plain_put (c := 110 - l) s.up1 (bs_own s.at) (by simp [numB_length]; omega)).mono fun v h29 ⟨hv, s⟩ => ⟨hv, ?_⟩
  simp only [putS] at s
  refine ⟨_, s.up2.row0 rfl, ?_⟩
  refine (mark_ok hg hq _ _).mono fun v h32 ⟨hv, e⟩ => ⟨e, _, hv, ?_⟩
  have s := s.keep e
  refine (u64_put s _ (by simp [numB_length]; omega)).mono fun v h35 ⟨hv, s⟩ => ⟨hv, ?_⟩
  simp only [putS] at s
  refine (out_ok s.at (by simp [numB_length]; omega)).mono fun v h37 ⟨p', l', c', hv, nw⟩ => ⟨nw.ext, p', l', c', 0, hv, p', l', c', rfl, ?_⟩
  have e : numB (markN g q) 8 ++ numB k 1 ++ numB l 1 ++ xs ++ List.replicate (110 - l) 0 ++ numB (markN g q) 8 = pageW g q k xs := by rw [pageW, hxl]
  have nw := nw.under s.ext
  simp only [e] at nw
  exact nw

/-- What stands in a page. -/
def mk9 (b : List UInt8) : Nat := valB (b.take 8)
def kd9 (b : List UInt8) : Nat := valB ((b.drop 8).take 1)
def ct9 (b : List UInt8) : Nat := valB ((b.drop 9).take 1)
def tl9 (b : List UInt8) : Nat := valB (b.drop 120)
def tx9 (b : List UInt8) : List UInt8 := (b.drop 10).take (ct9 b)
/-- A right page's generation, kind and part. -/
def decW (b : List UInt8) (place least : Nat) : Option (Nat × Nat × List UInt8) :=
  if ct9 b ≤ 110 ∧ (∀ x ∈ (b.drop (10 + ct9 b)).take (110 - ct9 b), x = 0) ∧ tl9 b = mk9 b ∧ (ct9 b = 110 ∨ kd9 b / 2 % 2 = 1) ∧ kd9 b ≤ 3 ∧ mk9 b % 4294967296 = place ∧ least ≤ mk9 b / 4294967296
  then some (mk9 b / 4294967296, kd9 b, tx9 b) else none
theorem byte_lt (l : List UInt8) : valB (l.take 1) < 256 := by
  have := valB_le (bs := l.take 1) (n := 1) (by rw [List.length_take]; omega)
  simpa using this
theorem mk9_lt (l : List UInt8) : mk9 l < 18446744073709551616 := by
  have := valB_le (bs := l.take 8) (n := 8) (by rw [List.length_take]; omega)
  simpa [mk9] using this
theorem andI_2 {k : Nat} (hk : k < 256) : andI .i64 (k : Int) 2 = ((k / 2 % 2 * 2 : Nat) : Int) := by
  have h8 : IntKind.i64.bits = 64 := rfl
  unfold andI
  rw [h8]
  have e : (BitVec.ofInt 64 (k : Int) &&& BitVec.ofInt 64 2).toNat = k &&& 2 := by
    have : (2 : Int) = ((2 : Nat) : Int) := rfl
    rw [this, BitVec.ofInt_natCast, BitVec.ofInt_natCast, BitVec.toNat_and, BitVec.toNat_ofNat, BitVec.toNat_ofNat, Nat.mod_eq_of_lt (by omega), Nat.mod_eq_of_lt (by omega)]
  have e2 : k &&& 2 = k / 2 % 2 * 2 := by
    have key : ∀ k : Fin 256, k.val &&& 2 = k.val / 2 % 2 * 2 := by decide
    exact key ⟨k, hk⟩
  rw [e, e2, wrap_i64 (by omega) (by omega)]
theorem andI_1 {k : Nat} (hk : k < 256) : andI .i64 (k : Int) 1 = ((k % 2 : Nat) : Int) := by
  have h8 : IntKind.i64.bits = 64 := rfl
  unfold andI
  rw [h8]
  have e : (BitVec.ofInt 64 (k : Int) &&& BitVec.ofInt 64 1).toNat = k &&& 1 := by
    have : (1 : Int) = ((1 : Nat) : Int) := rfl
    rw [this, BitVec.ofInt_natCast, BitVec.ofInt_natCast, BitVec.toNat_and, BitVec.toNat_ofNat, BitVec.toNat_ofNat, Nat.mod_eq_of_lt (by omega), Nat.mod_eq_of_lt (by omega)]
  rw [e, Nat.and_one_is_mod, wrap_i64 (by omega) (by omega)]
end
end Go.Proofs.Ytgeoelahfljefaa
