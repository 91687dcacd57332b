/- Layer 9: a page of a log, written and read. -/
import Derived.Test.YtbmhphnidfpclaaL7
import Derived.Test.YtbmhphnidfpclaaL1
import Derived.Test.YtbmhphnidfpclaaS
import Derived.Test.YtbmhphnidfpclaaFw
import Derived.Test.YtbmhphnidfpclaaL8
set_option linter.unusedVariables false
set_option maxRecDepth 100000
namespace Go.Proofs.Ytbmhphnidfpclaa
open Go Go.Vc Go.Proofs
/-- How many parts a record has. -/
def partsN (n : Nat) : Nat := (n - 1) / 110 + 1
theorem parts_ok {h : Heap} (n : Nat) (hn : n ≤ 1000000000) : CallsH Try.prog n_wal_Parts #[.int .i64 n] h fun v h' => v = .int .i64 (partsN n) ∧ h' = h := by
  refine C_wal_Parts n ?_
  unfold F_wal_Parts
  rw [br_decide]
  refine ⟨fun hh => by omega, fun _ => ⟨by omega, ?_, by trivial⟩⟩
  rw [wrap_i64 (n := (n : Int) - 1) (by omega) (by omega)]
  unfold partsN
  by_cases h0 : n = 0
  · subst h0; rfl
  · have e : ((n : Int) - 1) = ((n - 1 : Nat) : Int) := by omega
    rw [e, Int.tdiv_eq_ediv_of_nonneg (by omega), wrap_i64 (n := ((n - 1 : Nat) : Int) / 110) (by omega) (by omega), wrap_i64 (by omega) (by omega)]
    congr 1
theorem rparts_ok {h : Heap} (n : Nat) (hn : n ≤ 1000000000) : CallsH Try.prog n_ref09_Parts #[.int .i64 n] h fun v h' => v = .int .i64 (partsN n) ∧ h' = h := by
  refine C_ref09_Parts n ?_
  unfold F_ref09_Parts
  rw [br_decide]
  refine ⟨fun hh => by omega, fun _ => ?_⟩
  rw [br_beq]
  refine ⟨fun h0 => ⟨?_, by trivial⟩, fun h0 => ?_⟩
  · obtain rfl : n = 0 := by omega
    rfl
  refine ⟨fun st h' => h' = h ∧ ∃ k : Nat, st.2 = k ∧ st.1 = (n : Int) - 110 * k ∧ (k = 0 ∨ 110 * (k - 1) < n), fun st _ => (st.1 + 110).toNat, ⟨by trivial, 0, rfl, by omega, .inl rfl⟩, ?_⟩
  rintro ⟨x, y⟩ h3 ⟨rfl, k, rfl, rfl, hk⟩
  dsimp only
  rw [br_decide]
  refine ⟨fun hgt => ?_, fun hle => ⟨?_, by trivial⟩⟩
  · rw [wrap_i64 (by omega) (by omega), wrap_i64 (by omega) (by omega)]
    exact ⟨⟨by trivial, k + 1, by omega, by omega, .inr (by simp; omega)⟩, by omega⟩
  · unfold partsN
    congr 1
    omega

/- ### Pages -/
def markN (g p : Nat) : Nat := g * 4294967296 + p
theorem or32 {g p : Nat} (hg : g < 4294967296) (hp : p < 4294967296) : orI .u64 (shlI .u64 (g : Int) 32) (IntKind.wrap .u64 (p : Int)) = ((markN g p : Nat) : Int) := by
  have e1 : shlI .u64 (g : Int) 32 = ((g * 4294967296 : Nat) : Int) := by
    unfold shlI
    have : (min (32 : Int).toNat IntKind.u64.bits) = 32 := rfl
    rw [this, wrap_u64]
    omega
  have e2 : IntKind.wrap .u64 (p : Int) = (p : Int) := by rw [wrap_u64]; omega
  rw [e1, e2, orI_u64 (by omega) (by omega)]
  congr 1
  have := Nat.shiftLeft_add_eq_or_of_lt (i := 32) (b := p) (by omega) g
  rw [Nat.shiftLeft_eq] at this
  exact this.symm
def pageW (g p k : Nat) (b : List UInt8) : List UInt8 := numB (markN g p) 8 ++ numB k 1 ++ numB b.length 1 ++ b ++ List.replicate (110 - b.length) 0 ++ numB (markN g p) 8
theorem pageW_length {g p k : Nat} {b : List UInt8} (h : b.length ≤ 110) : (pageW g p k b).length = 128 := by
  simp [pageW, numB_length]; omega
section
variable {h0 h : Heap} {F : List HP} {b n : Nat} {D : Dev}
theorem mark_ok {g p : Nat} (hg : g < 4294967296) (hp : p < 4294967296) (k sl : Value) : CallsH Try.prog n_wal_part_mark #[.agg #[.int .u32 g, .int .i64 p, k, sl]] h fun v h' => v = .int .u64 (markN g p) ∧ Ext h h' := by
  refine C_wal_part_mark #[.int .u32 g, .int .i64 p, k, sl] ?_
  unfold F_wal_part_mark
  refine (St.start h).newBlk fun b h1 _ s e => ?_
  simp only [add_mk, Nat.zero_add]
  refine ⟨_, s.cell0 (i := 0) rfl, by omega, _, s.cell0 (i := 1) rfl, ?_, e⟩
  have e1 : IntKind.wrap .u64 (g : Int) = (g : Int) := by rw [wrap_u64]; omega
  have e2 : IntKind.wrap .u32 (p : Int) = (p : Int) := by rw [wrap_u32]; omega
  rw [e1, e2, or32 hg hp]
theorem page9_ok {xs : List UInt8} {p : Option Addr} {l c : Nat} (hx : Bs h p l xs) (hl : xs.length ≤ 110) {g q k : Nat} (hg : g < 4294967296) (hq : q < 4294967296) (hk : k ≤ 255) :
    CallsH Try.prog n_wal_part_page #[.agg #[.int .u32 g, .int .i64 q, .int .i64 k, .slice p l c]] h fun v h' => ∃ p' l' c', v = .tuple #[.slice p' l' c', .int .i64 0] ∧ New h h' [own 1 p' l' c' (bcs (pageW g q k xs))] := by
  refine C_wal_part_page #[.int .u32 g, .int .i64 q, .int .i64 k, .slice p l c] ?_
  unfold F_wal_part_page
  have hxl := hx.1
  refine (St.start h).newBlk fun b0 h1 _ s _ => s.newBlk fun b2 h3 _ s _ => ?_
  simp only [add_mk, Nat.zero_add]
  refine ⟨_, s.up1.row0 rfl, ?_⟩
  refine (mark_ok hg hq _ _).mono fun v h6 ⟨hv, e⟩ => ⟨e, _, hv, ?_⟩
  have s := W.mk (s.keep e)
  refine (u64_put s _ (by simp)).mono fun v h9 ⟨hv, s⟩ => ⟨hv, _, s.up1.cell0 (i := 2) rfl, ?_⟩
  simp only [putS, List.nil_append] at s
  refine (u8_put s k (by simp [numB_length])).mono fun v h12 ⟨hv, s⟩ => ⟨hv, _, _, _, s.up1.cell0 (i := 3) rfl, ?_⟩
  rw [if_pos (by omega)] at s
  simp only [putS, Int.toNat_natCast] at s
  refine (u8_put s l (by simp [numB_length])).mono fun v h17 ⟨hv, s⟩ => ⟨hv, _, _, _, s.up1.cell0 (i := 3) rfl, ?_⟩
  rw [if_pos (by omega)] at s
  simp only [putS, Int.toNat_natCast] at s
  refine (plain_put (c := c) s (hx.ext s.ext) (by simp [numB_length]; omega)).mono fun v h22 ⟨hv, s⟩ => ⟨hv, _, _, _, s.up1.cell0 (i := 3) rfl, ?_⟩
  simp only [putS] at s
  have hw : IntKind.wrap .i64 (110 - (l : Int)) = ((110 - l : Nat) : Int) := by rw [wrap_i64 (by omega) (by omega)]; omega
  rw [hw]
  refine s.make (z := .int .u8 0) rfl (by omega) (Nat.le_refl _) (by unfold maxLen; omega) (by omega) fun b26 h27 s => ?_
  have ez : List.replicate ((110 - l) * 1) (Value.int .u8 0) = bcs (List.replicate (110 - l) 0) := by rw [bcs_replicate, Nat.mul_one]; rfl
  rw [ez] at s
  simp only [Int.toNat_natCast]
  refine (plain_put (c := 110 - l) s.up1 (bs_own s.at) (by simp [numB_length]; omega)).mono fun v h29 ⟨hv, s⟩ => ⟨hv, ?_⟩
  simp only [putS] at s
  refine ⟨_, s.up2.row0 rfl, ?_⟩
  refine (mark_ok hg hq _ _).mono fun v h32 ⟨hv, e⟩ => ⟨e, _, hv, ?_⟩
  have s := s.keep e
  refine (u64_put s _ (by simp [numB_length]; omega)).mono fun v h35 ⟨hv, s⟩ => ⟨hv, ?_⟩
  simp only [putS] at s
  refine (out_ok s.at (by simp [numB_length]; omega)).mono fun v h37 ⟨p', l', c', hv, nw⟩ => ⟨nw.ext, p', l', c', 0, hv, p', l', c', rfl, ?_⟩
  have e : numB (markN g q) 8 ++ numB k 1 ++ numB l 1 ++ xs ++ List.replicate (110 - l) 0 ++ numB (markN g q) 8 = pageW g q k xs := by rw [pageW, hxl]
  have nw := nw.under s.ext
  simp only [e] at nw
  exact nw

/-- What stands in a page. -/
def mk9 (b : List UInt8) : Nat := valB (b.take 8)
def kd9 (b : List UInt8) : Nat := valB ((b.drop 8).take 1)
def ct9 (b : List UInt8) : Nat := valB ((b.drop 9).take 1)
def tl9 (b : List UInt8) : Nat := valB (b.drop 120)
def tx9 (b : List UInt8) : List UInt8 := (b.drop 10).take (ct9 b)
/-- A right page's generation, kind and part. -/
def decW (b : List UInt8) (place least : Nat) : Option (Nat × Nat × List UInt8) :=
  if ct9 b ≤ 110 ∧ (∀ x ∈ (b.drop (10 + ct9 b)).take (110 - ct9 b), x = 0) ∧ tl9 b = mk9 b ∧ (ct9 b = 110 ∨ kd9 b / 2 % 2 = 1) ∧ kd9 b ≤ 3 ∧ mk9 b % 4294967296 = place ∧ least ≤ mk9 b / 4294967296
  then some (mk9 b / 4294967296, kd9 b, tx9 b) else none
theorem byte_lt (l : List UInt8) : valB (l.take 1) < 256 := by
  have := valB_le (bs := l.take 1) (n := 1) (by rw [List.length_take]; omega)
  simpa using this
theorem mk9_lt (l : List UInt8) : mk9 l < 18446744073709551616 := by
  have := valB_le (bs := l.take 8) (n := 8) (by rw [List.length_take]; omega)
  simpa [mk9] using this
theorem andI_2 {k : Nat} (hk : k < 256) : andI .i64 (k : Int) 2 = ((k / 2 % 2 * 2 : Nat) : Int) := by
  have h8 : IntKind.i64.bits = 64 := rfl
  unfold andI
  rw [h8]
  have e : (BitVec.ofInt 64 (k : Int) &&& BitVec.ofInt 64 2).toNat = k &&& 2 := by
    have : (2 : Int) = ((2 : Nat) : Int) := rfl
    rw [this, BitVec.ofInt_natCast, BitVec.ofInt_natCast, BitVec.toNat_and, BitVec.toNat_ofNat, BitVec.toNat_ofNat, Nat.mod_eq_of_lt (by omega), Nat.mod_eq_of_lt (by omega)]
  have e2 : k &&& 2 = k / 2 % 2 * 2 := by
    have key : ∀ k : Fin 256, k.val &&& 2 = k.val / 2 % 2 * 2 := by decide
    exact key ⟨k, hk⟩
  rw [e, e2, wrap_i64 (by omega) (by omega)]
theorem andI_1 {k : Nat} (hk : k < 256) : andI .i64 (k : Int) 1 = ((k % 2 : Nat) : Int) := by
  have h8 : IntKind.i64.bits = 64 := rfl
  unfold andI
  rw [h8]
  have e : (BitVec.ofInt 64 (k : Int) &&& BitVec.ofInt 64 1).toNat = k &&& 1 := by
    have : (1 : Int) = ((1 : Nat) : Int) := rfl
    rw [this, BitVec.ofInt_natCast, BitVec.ofInt_natCast, BitVec.toNat_and, BitVec.toNat_ofNat, BitVec.toNat_ofNat, Nat.mod_eq_of_lt (by omega), Nat.mod_eq_of_lt (by omega)]
  rw [e, Nat.and_one_is_mod, wrap_i64 (by omega) (by omega)]
end
end Go.Proofs.Ytbmhphnidfpclaa
/- Layer 9: whether a page is right. -/
set_option linter.unusedVariables false
set_option maxRecDepth 100000
namespace Go.Proofs.Ytbmhphnidfpclaa
open Go Go.Vc Go.Proofs
section
variable {h0 h : Heap} {F : List HP} {b n : Nat} {D : Dev}
theorem one_part (a b c : Int) (p : Option Addr) (l n : Nat) : one #[.int .u32 a, .int .i64 b, .int .i64 c, .slice p l n] := by
  intro v hv
  simp at hv
  rcases hv with h | h | h | h <;> subst h <;> rfl
theorem one_part' (a b : Int) (p : Option Addr) (l n : Nat) (q : Option Addr) (m k : Nat) : one #[.int .i64 a, .int .i64 b, .slice p l n, .slice q m k] := by
  intro v hv
  simp at hv
  rcases hv with h | h | h | h <;> subst h <;> rfl
/-- What is told of a page. -/
def Told (h : Heap) (xs : List UInt8) (place least : Nat) (v : Value) (h' : Heap) : Prop :=
  ∃ (g pl k : Nat) (p' : Option Addr) (l' c' : Nat) (t : Bool) (part : List UInt8), v = .tuple #[.agg #[.int .u32 g, .int .i64 pl, .int .i64 k, .slice p' l' c'], .bool t] ∧
    decW xs place least = (if t then some (g, k, part) else none) ∧ part.length ≤ 110 ∧ k < 256 ∧ New h h' [own 1 p' l' c' (bcs part)]
theorem parted_ok {xs : List UInt8} {p : Option Addr} {l c : Nat} (hx : Bs h p l xs) (hl : xs.length = 128) {place least : Nat} (hp : place < 1000000000) (hle : least < 4294967296) :
    CallsH Try.prog n_wal_parted #[.slice p l c, .int .i64 place, .int .u32 least] h (Told h xs place least) := by
  refine C_wal_parted p l c place least ?_
  unfold F_wal_parted
  have hxl := hx.1
  refine (St.start h).newBlk fun b0 h1 _ s _ => ?_
  refine (rdr_ok (hx.ext s.ext) (by omega)).mono fun v h3 ⟨r, hv, nw⟩ => ⟨nw.ext, _, hv, ?_⟩
  have s := s.join nw
  simp only [List.cons_append, List.nil_append] at s
  have e1 : numR xs false 8 = (mk9 xs, xs.drop 8, false) := by rw [numR, if_pos ⟨rfl, by omega⟩]; rfl
  refine (rU64_ok s).mono fun v h6 ⟨hv, s⟩ => ⟨_, hv, by omega, ?_⟩
  rw [e1] at s ⊢
  dsimp only at s ⊢
  have hm := mk9_lt xs
  have hl8 : (xs.drop 8).length = 120 := by rw [List.length_drop]; omega
  have e2 : numR (xs.drop 8) false 1 = (kd9 xs, xs.drop 9, false) := by rw [numR, if_pos ⟨rfl, by omega⟩, List.drop_drop]; rfl
  refine (rU8_ok s).mono fun v h9 ⟨hv, s⟩ => ⟨_, hv, ?_⟩
  rw [e2] at s ⊢
  dsimp only at s ⊢
  have hk : kd9 xs < 256 := byte_lt _
  refine s.newBlk fun b11 h12 _ s _ => ?_
  have eg : IntKind.wrap .u32 (shrI .u64 (mk9 xs : Int) 32) = ((mk9 xs / 4294967296 : Nat) : Int) := by
    have : (32 : Int) = ((32 : Nat) : Int) := rfl
    rw [this, shrI_nat _ _ _ (show 32 ≤ 64 by omega), wrap_u32]
    have : (2 : Nat) ^ 32 = 4294967296 := rfl
    rw [this]
    omega
  have ep : IntKind.wrap .i64 (IntKind.wrap .u32 (mk9 xs : Int)) = ((mk9 xs % 4294967296 : Nat) : Int) := by
    rw [wrap_u32, wrap_i64 (by omega) (by omega)]
    omega
  rw [eg, ep]
  refine s.storeAll (by simp) (by simp) (one_part _ _ _ _ _ _) fun h13 s => ?_
  have e3 : numR (xs.drop 9) false 1 = (ct9 xs, xs.drop 10, false) := by
    have : (xs.drop 9).length = 119 := by rw [List.length_drop]; omega
    rw [numR, if_pos ⟨rfl, by omega⟩, List.drop_drop]; rfl
  refine (rU8_ok s.up1).mono fun v h15 ⟨hv, s⟩ => ⟨_, hv, ?_⟩
  rw [e3] at s ⊢
  dsimp only at s ⊢
  have hc : ct9 xs < 256 := byte_lt _
  -- the end, where the page is not right
  have bad : ∀ {h' : Heap} {G : List HP}, St h h' (pts b0 0 false [.int .u32 0, .int .i64 0, .int .i64 0, .slice none 0 0] :: G) → decW xs place least = none → ∃ cs18 : Array Value, row h' (Addr.mk b0 0 none) 4 = some cs18 ∧ Told h xs place least (.tuple #[.agg cs18, .bool false]) h' := by
    intro h' G s hd
    refine ⟨_, s.row0 rfl, 0, 0, 0, none, 0, 0, false, [], rfl, hd, by simp, by omega, ?_⟩
    exact (St.nil (F := []) (s.conseq fun _ _ => trivial) 1).new ⟨owns_own, trivial⟩
  have fin : ∀ {h' : Heap} {G : List HP} (p' : Option Addr) (l' c' : Nat) (t : Bool), St h h' (own 1 p' l' c' (bcs (tx9 xs)) :: pts b0 0 false [.int .u32 ((mk9 xs / 4294967296 : Nat) : Int), .int .i64 ((mk9 xs % 4294967296 : Nat) : Int), .int .i64 (kd9 xs), .slice p' l' c'] :: G) →
      decW xs place least = (if t then some (mk9 xs / 4294967296, kd9 xs, tx9 xs) else none) → (tx9 xs).length ≤ 110 →
      ∃ cs18 : Array Value, row h' (Addr.mk b0 0 none) 4 = some cs18 ∧ Told h xs place least (.tuple #[.agg cs18, .bool t]) h' := by
    intro h' G p' l' c' t s hd ht
    exact ⟨_, s.up1.row0 rfl, _, _, _, _, _, _, t, _, rfl, hd, ht, hk, (s.conseq (l' := [own 1 p' l' c' (bcs (tx9 xs))]) fun _ ⟨m1, m2, a, b, c, q, _⟩ => ⟨m1, fun _ _ => none, a, fun _ _ _ h => (by simp at h), fun _ _ _ _ _ h => (by simp at h), q, trivial⟩).new ⟨owns_own, trivial⟩⟩
  rw [br_decide]
  refine ⟨fun hgt => s.up2.storeAll (by simp) (by simp) (one_part _ _ _ _ _ _) fun h17 s => bad s (by rw [decW, if_neg (fun hh => by omega)]), fun hle110 => ?_⟩
  have hc110 : ct9 xs ≤ 110 := by omega
  have hl10 : (xs.drop 10).length = 118 := by rw [List.length_drop]; omega
  have e4 : takeR (xs.drop 10) false (ct9 xs : Int) = (tx9 xs, xs.drop (10 + ct9 xs), false) := by
    rw [takeR, if_pos ⟨rfl, by omega, by omega⟩, List.drop_drop, Int.toNat_natCast]; rfl
  have htx : (tx9 xs).length = ct9 xs := by rw [tx9, List.length_take, List.length_drop]; omega
  refine (rPlain_ok s (ct9 xs : Int)).mono fun v h20 ⟨p21, l22, c23, hv, s⟩ => ⟨p21, l22, c23, hv, ?_⟩
  rw [e4] at s
  dsimp only at s
  refine s.up2.store0 (i := 3) (by simp) rfl fun h24 s => ?_
  simp only [List.set_cons_succ, List.set_cons_zero] at s
  have hw : IntKind.wrap .i64 (110 - (ct9 xs : Int)) = ((110 - ct9 xs : Nat) : Int) := by rw [wrap_i64 (by omega) (by omega)]; omega
  rw [hw]
  have hlr : (xs.drop (10 + ct9 xs)).length = 118 - ct9 xs := by rw [List.length_drop]; omega
  have e5 : takeR (xs.drop (10 + ct9 xs)) false ((110 - ct9 xs : Nat) : Int) = ((xs.drop (10 + ct9 xs)).take (110 - ct9 xs), xs.drop 120, false) := by
    rw [takeR, if_pos ⟨rfl, by omega, by omega⟩, List.drop_drop, Int.toNat_natCast]
    have : 10 + ct9 xs + (110 - ct9 xs) = 120 := by omega
    rw [this]
  generalize hzs : (xs.drop (10 + ct9 xs)).take (110 - ct9 xs) = zs at *
  have hzl : zs.length = 110 - ct9 xs := by rw [← hzs, List.length_take]; omega
  have hdec : decW xs place least = if (∀ x ∈ zs, x = 0) ∧ tl9 xs = mk9 xs ∧ (ct9 xs = 110 ∨ kd9 xs / 2 % 2 = 1) ∧ kd9 xs ≤ 3 ∧ mk9 xs % 4294967296 = place ∧ least ≤ mk9 xs / 4294967296 then some (mk9 xs / 4294967296, kd9 xs, tx9 xs) else none := by
    unfold decW
    rw [hzs]
    simp only [hc110, true_and]
  refine ⟨fun _ h' => (∀ x ∈ zs, x = 0) ∧ St h h' [W r (xs.drop 120) false, own 1 p21 l22 c23 (bcs (tx9 xs)), pts b11 0 false [.int .u32 ((mk9 xs / 4294967296 : Nat) : Int), .int .i64 ((mk9 xs % 4294967296 : Nat) : Int), .int .i64 (kd9 xs), .slice p21 l22 c23], pts b0 0 false [.int .u32 0, .int .i64 0, .int .i64 0, .slice none 0 0]], ?_, ?_⟩
  · refine (rPlain_ok s.up1 _).mono fun v h27 ⟨p28, l29, c30, hv, s⟩ => ⟨p28, l29, c30, hv, ?_⟩
    rw [e5] at s
    dsimp only at s
    have hl29 := s.up1.len.1
    rw [bcs_length, hzl] at hl29
    refine ⟨fun i h' => h' = h27 ∧ ∃ k : Nat, i = k ∧ k ≤ l29 ∧ ∀ j (hj : j < zs.length), j < k → zs[j] = 0, fun i _ => ((l29 : Int) - i).toNat, ⟨rfl, 0, rfl, Nat.zero_le _, fun j _ hj => by omega⟩, ?_⟩
    rintro i h34 ⟨rfl, k, rfl, hk29, hz⟩
    rw [br_decide]
    refine ⟨fun hlt => ⟨by omega, hlt, ?_⟩, fun hge => ?_⟩
    · obtain ⟨a, rfl, hcell⟩ := (bs_own s.up1.at).cell (i := k) (by omega)
      simp only [deref_some, Int.toNat_natCast, Nat.mul_one]
      refine ⟨_, hcell, ?_⟩
      rw [br_bne]
      refine ⟨fun hne => s.up4.storeAll (by simp) (by simp) (one_part _ _ _ _ _ _) fun h17 s => bad s ?_, fun heq => ?_⟩
      · rw [hdec, if_neg]
        rintro ⟨hall, _⟩
        have := hall zs[k] (List.getElem_mem _)
        rw [this] at hne
        exact hne rfl
      · rw [wrap_i64 (by omega) (by omega)]
        refine ⟨⟨by trivial, k + 1, by omega, by omega, fun j hj hjk => ?_⟩, by omega⟩
        by_cases hjk' : j = k
        · subst hjk'
          exact UInt8.toNat_inj.1 (by have : (0 : UInt8).toNat = 0 := rfl
                                      omega)
        · exact hz j hj (by omega)
    · refine ⟨fun x hx => ?_, s.up1.drop.conseq fun _ hh => ?_⟩
      · obtain ⟨j, hj, rfl⟩ := List.mem_iff_getElem.1 hx
        exact hz j hj (by omega)
      · exact star_tail (fun _ hh => star_swap hh) hh
  clear s
  rintro _ h40 ⟨hall, s⟩
  have e6 : numR (xs.drop 120) false 8 = (tl9 xs, [], false) := by
    have ed : (xs.drop 120).length = 8 := by rw [List.length_drop]; omega
    have e : (xs.drop 120).drop 8 = [] := List.drop_of_length_le (by omega)
    rw [numR, if_pos ⟨rfl, by omega⟩, List.take_of_length_le (by omega), e]
    rfl
  refine ⟨fun t h' => t = decide (tl9 xs = mk9 xs) ∧ St h h' [own 1 p21 l22 c23 (bcs (tx9 xs)), pts b11 0 false [.int .u32 ((mk9 xs / 4294967296 : Nat) : Int), .int .i64 ((mk9 xs % 4294967296 : Nat) : Int), .int .i64 (kd9 xs), .slice p21 l22 c23], pts b0 0 false [.int .u32 0, .int .i64 0, .int .i64 0, .slice none 0 0]], ?_, ?_⟩
  · refine (rU64_ok s).mono fun v h43 ⟨hv, s⟩ => ⟨_, hv, ?_⟩
    rw [e6] at s ⊢
    dsimp only at s ⊢
    rw [br_beq]
    refine ⟨fun he => ?_, fun hne => ⟨by rw [decide_eq_false (by omega)], s.drop⟩⟩
    refine (done_ok s.at).mono fun v h46 ⟨hv, hh⟩ => ?_
    subst hh
    exact ⟨Ext.refl _, true, by rw [hv]; rfl, by rw [decide_eq_true (by omega)], s.drop⟩
  clear s
  rintro t48 h49 ⟨rfl, s⟩
  refine ⟨fun t h' => t = decide (ct9 xs = 110 ∨ kd9 xs / 2 % 2 = 1) ∧ St h h' [own 1 p21 l22 c23 (bcs (tx9 xs)), pts b11 0 false [.int .u32 ((mk9 xs / 4294967296 : Nat) : Int), .int .i64 ((mk9 xs % 4294967296 : Nat) : Int), .int .i64 (kd9 xs), .slice p21 l22 c23], pts b0 0 false [.int .u32 0, .int .i64 0, .int .i64 0, .slice none 0 0]], ?_, ?_⟩
  · rw [br_beq]
    refine ⟨fun he => ⟨by rw [decide_eq_true (.inl (by omega))], s⟩, fun hne => ?_⟩
    simp only [add_mk, Nat.zero_add]
    refine ⟨_, s.up1.cell0 (i := 2) rfl, ?_, s⟩
    rw [andI_2 hk, Bool.eq_iff_iff, bne_iff_ne, decide_eq_true_iff]
    omega
  clear s
  rintro t52 h53 ⟨rfl, s⟩
  refine ⟨_, s.up1.row0 rfl, ?_⟩
  have put : ∀ {K : Heap → Prop}, (∀ h', St h h' [own 1 p21 l22 c23 (bcs (tx9 xs)), pts b0 0 false [.int .u32 ((mk9 xs / 4294967296 : Nat) : Int), .int .i64 ((mk9 xs % 4294967296 : Nat) : Int), .int .i64 (kd9 xs), .slice p21 l22 c23], pts b11 0 false [.int .u32 ((mk9 xs / 4294967296 : Nat) : Int), .int .i64 ((mk9 xs % 4294967296 : Nat) : Int), .int .i64 (kd9 xs), .slice p21 l22 c23]] → K h') →
      storeP (some 4) h53 (Addr.mk b0 0 none) (Value.agg [Value.int .u32 ((mk9 xs / 4294967296 : Nat) : Int), .int .i64 ((mk9 xs % 4294967296 : Nat) : Int), .int .i64 (kd9 xs), .slice p21 l22 c23].toArray) K :=
    fun hK => s.up2.storeAll (by simp) (by simp) (one_part _ _ _ _ _ _) fun h' s => hK h' s.up1
  have no : decW xs place least = none → storeP (some 4) h53 (Addr.mk b0 0 none) (Value.agg [Value.int .u32 ((mk9 xs / 4294967296 : Nat) : Int), .int .i64 ((mk9 xs % 4294967296 : Nat) : Int), .int .i64 (kd9 xs), .slice p21 l22 c23].toArray) fun h' =>
      ∃ cs18 : Array Value, row h' (Addr.mk b0 0 none) 4 = some cs18 ∧ Told h xs place least (.tuple #[.agg cs18, .bool false]) h' :=
    fun hd => put fun h' s => fin p21 l22 c23 false s hd (by omega)
  rw [br_decide]
  refine ⟨fun h1 => ?_, fun h1 => ⟨no (by rw [hdec, if_neg (fun hh => h1 hh.2.1)]), no (by rw [hdec, if_neg (fun hh => h1 hh.2.1)])⟩⟩
  rw [br_decide]
  refine ⟨fun h2 => ?_, fun h2 => ⟨no (by rw [hdec, if_neg (fun hh => h2 hh.2.2.1)]), no (by rw [hdec, if_neg (fun hh => h2 hh.2.2.1)])⟩⟩
  simp only [add_mk, Nat.zero_add]
  refine ⟨_, s.up1.cell0 (i := 2) rfl, ?_⟩
  rw [br_decide]
  refine ⟨fun h3 => ⟨_, s.up1.cell0 (i := 1) rfl, ?_⟩, fun h3 => ⟨no (by rw [hdec, if_neg (fun hh => by omega)]), no (by rw [hdec, if_neg (fun hh => by omega)])⟩⟩
  rw [br_beq]
  refine ⟨fun h4 => ?_, fun h4 => ⟨no (by rw [hdec, if_neg (fun hh => by omega)]), no (by rw [hdec, if_neg (fun hh => by omega)])⟩⟩
  have last : decW xs place least = if decide (((mk9 xs / 4294967296 : Nat) : Int) ≥ (least : Int)) = true then some (mk9 xs / 4294967296, kd9 xs, tx9 xs) else none := by
    rw [hdec]
    by_cases h5 : least ≤ mk9 xs / 4294967296
    · rw [if_pos ⟨hall, h1, h2, by omega, by omega, h5⟩, if_pos (decide_eq_true (by omega))]
    · rw [if_neg (fun hh => h5 hh.2.2.2.2.2), if_neg (fun hh => h5 (by have := of_decide_eq_true hh; omega))]
  exact ⟨⟨_, s.up1.cell0 (i := 0) rfl, put fun h' s => fin p21 l22 c23 _ s last (by omega)⟩, put fun h' s => ⟨_, s.up2.cell0 (i := 0) rfl, fin p21 l22 c23 _ s last (by omega)⟩⟩
end
end Go.Proofs.Ytbmhphnidfpclaa
/- Layer 9: a log: its room, what it appends and flushes. -/
set_option linter.unusedVariables false
set_option maxRecDepth 100000
namespace Go.Proofs.Ytbmhphnidfpclaa
open Go Go.Vc Go.Proofs
structure Lg where
  d : Nat
  start : Nat
  count : Nat
  gen : Nat
  next : Nat
  over : Bool
structure Lg.Wf (L : Lg) (n : Nat) : Prop where
  next : L.next ≤ L.count
  room : L.start + L.count ≤ n
  max : n ≤ 4096
  gen : L.gen < 4294967296
def Lv (b : Nat) (L : Lg) : HP := pts b 0 false [ptr L.d, .int .i64 L.start, .int .i64 L.count, .int .u32 L.gen, .int .i64 L.next, .bool L.over]
theorem owns_Lv {b : Nat} {L : Lg} : Owns (Lv b L) := owns_pts
def partB (bs : List UInt8) (i : Nat) : List UInt8 := (bs.drop (110 * i)).take 110
theorem partB_len (bs : List UInt8) (i : Nat) : (partB bs i).length ≤ 110 := by rw [partB, List.length_take]; omega
def kindN (i n : Nat) : Nat := (if i = 0 then 1 else 0) + (if i + 1 = n then 2 else 0)
theorem kindN_le (i n : Nat) : kindN i n ≤ 3 := by unfold kindN; split <;> split <;> omega
def pageA (L : Lg) (bs : List UInt8) (i : Nat) : List UInt8 := pageW L.gen (L.next + i + 1) (kindN i (partsN bs.length)) (partB bs i)
theorem pageA_len (L : Lg) (bs : List UInt8) (i : Nat) : (pageA L bs i).length = 128 := pageW_length (partB_len bs i)
def putA (L : Lg) (bs : List UInt8) : Nat → Nat → Dev → Int × Dev
  | 0, _, D => (0, D)
  | k + 1, i, D => if (writeD D ((L.start + L.next + i : Nat) : Int) (pageA L bs i)).1 ≠ 0 then writeD D ((L.start + L.next + i : Nat) : Int) (pageA L bs i)
    else putA L bs k (i + 1) (writeD D ((L.start + L.next + i : Nat) : Int) (pageA L bs i)).2
theorem putA_succ (L : Lg) (bs : List UInt8) (k i : Nat) (D : Dev) : putA L bs (k + 1) i D = if (writeD D ((L.start + L.next + i : Nat) : Int) (pageA L bs i)).1 ≠ 0 then writeD D ((L.start + L.next + i : Nat) : Int) (pageA L bs i)
    else putA L bs k (i + 1) (writeD D ((L.start + L.next + i : Nat) : Int) (pageA L bs i)).2 := rfl
def overL (L : Lg) (e : Int) : Lg := { L with over := L.over || e == 6 }
def appendD (L : Lg) (D : Dev) (bs : List UInt8) : Int × Lg × Dev :=
  if L.over then (6, L, D) else if 6000 < bs.length then (3, L, D) else if L.count < L.next + partsN bs.length then (5, L, D)
  else if (putA L bs (partsN bs.length) 0 D).1 ≠ 0 then ((putA L bs (partsN bs.length) 0 D).1, overL L (putA L bs (partsN bs.length) 0 D).1, (putA L bs (partsN bs.length) 0 D).2)
  else (0, { L with next := L.next + partsN bs.length }, (putA L bs (partsN bs.length) 0 D).2)
def flushL (L : Lg) (D : Dev) : Int × Lg × Dev := if L.over then (6, L, D) else ((flushD D).1, overL L (flushD D).1, (flushD D).2)
theorem putA_q (L : Lg) (bs : List UInt8) : ∀ k i (D : Dev), (putA L bs k i D).2.queue.length ≤ D.queue.length + k
  | 0, _, D => Nat.le_refl _
  | k + 1, i, D => by
    have h1 := writeD_q (D := D) ((L.start + L.next + i : Nat) : Int) (pageA L bs i)
    unfold putA
    split
    · omega
    · have := putA_q L bs k (i + 1) (writeD D ((L.start + L.next + i : Nat) : Int) (pageA L bs i)).2
      omega
theorem putA_wf (L : Lg) (bs : List UInt8) {n : Nat} : ∀ k i (D : Dev), D.Wf n → (putA L bs k i D).2.Wf n
  | 0, _, D, w => w
  | k + 1, i, D, w => by
    have h1 := writeD_wf w ((L.start + L.next + i : Nat) : Int) (pageA L bs i)
    unfold putA
    split
    · exact h1
    · exact putA_wf L bs k (i + 1) _ h1
theorem appendD_wf {L : Lg} {D : Dev} {n : Nat} (w : D.Wf n) (bs : List UInt8) : (appendD L D bs).2.2.Wf n := by
  unfold appendD
  split
  · exact w
  · split
    · exact w
    · split
      · exact w
      · split <;> exact putA_wf _ _ _ _ _ w
theorem appendD_q (L : Lg) (D : Dev) (bs : List UInt8) : (appendD L D bs).2.2.queue.length ≤ D.queue.length + 55 := by
  unfold appendD
  split
  · exact Nat.le_add_right _ _
  · split
    · exact Nat.le_add_right _ _
    · have h : partsN bs.length ≤ 55 := by unfold partsN; omega
      have := putA_q L bs (partsN bs.length) 0 D
      split
      · exact Nat.le_add_right _ _
      · split <;> (dsimp only; omega)
theorem flushL_wf {L : Lg} {D : Dev} {n : Nat} (w : D.Wf n) : (flushL L D).2.2.Wf n := by
  unfold flushL
  split
  · exact w
  · exact flushD_wf w
theorem flushL_q (L : Lg) (D : Dev) : (flushL L D).2.2.queue.length ≤ D.queue.length := by
  unfold flushL
  split
  · exact Nat.le_refl _
  · exact flushD_q
theorem appendD_lwf {L : Lg} {D : Dev} {n : Nat} (w : L.Wf n) (bs : List UInt8) : (appendD L D bs).2.1.Wf n ∧ (appendD L D bs).2.1.d = L.d ∧ (appendD L D bs).2.1.start = L.start ∧ (appendD L D bs).2.1.count = L.count ∧ (appendD L D bs).2.1.gen = L.gen := by
  unfold appendD
  split
  · exact ⟨w, rfl, rfl, rfl, rfl⟩
  · split
    · exact ⟨w, rfl, rfl, rfl, rfl⟩
    · split
      · exact ⟨w, rfl, rfl, rfl, rfl⟩
      · split
        · exact ⟨⟨w.next, w.room, w.max, w.gen⟩, rfl, rfl, rfl, rfl⟩
        · exact ⟨⟨by dsimp only; omega, w.room, w.max, w.gen⟩, rfl, rfl, rfl, rfl⟩
theorem flushL_lwf {L : Lg} {D : Dev} {n : Nat} (w : L.Wf n) : (flushL L D).2.1.Wf n ∧ (flushL L D).2.1.d = L.d ∧ (flushL L D).2.1.start = L.start ∧ (flushL L D).2.1.count = L.count ∧ (flushL L D).2.1.gen = L.gen := by
  unfold flushL
  split
  · exact ⟨w, rfl, rfl, rfl, rfl⟩
  · exact ⟨⟨w.next, w.room, w.max, w.gen⟩, rfl, rfl, rfl, rfl⟩
section
variable {h0 h : Heap} {F : List HP} {b n : Nat} {D : Dev} {L : Lg}
theorem room_ok (a : At h (Lv b L)) (w : L.Wf n) : CallsH Try.prog n_wal_Log_Room #[ptr b] h fun v h' => v = .int .i64 ((L.count - L.next : Nat) : Int) ∧ h' = h := by
  refine C_wal_Log_Room (some (Addr.mk b 0 none)) ?_
  unfold F_wal_Log_Room
  have := w.next
  have := w.room
  have := w.max
  simp only [Option.isNone_some, br_false, deref_some, add_mk, Nat.zero_add]
  refine ⟨_, pts_cell a (i := 2) rfl, _, pts_cell a (i := 4) rfl, ?_, by trivial⟩
  rw [wrap_i64 (by omega) (by omega)]
  congr 1
  omega
theorem ldone_ok (hs : St h0 h (Lv b L :: F)) (e : Int) : CallsH Try.prog n_wal_Log_done #[ptr b, .int .i64 e] h fun v h' => v = .int .i64 e ∧ St h0 h' (Lv b (overL L e) :: F) := by
  refine C_wal_Log_done (some (Addr.mk b 0 none)) e ?_
  unfold F_wal_Log_done
  unfold Lv at hs
  simp only [deref_some, add_mk, Nat.zero_add]
  refine ⟨L.over, hs.cell0 (i := 5) rfl, ?_⟩
  unfold Lv overL
  cases L.over
  · exact br_no rfl (hs.store0 (i := 5) (by simp) rfl fun h5 s => ⟨by trivial, s⟩)
  · exact br_yes rfl (hs.store0 (i := 5) (by simp) rfl fun h5 s => ⟨by trivial, s⟩)
theorem lflush_ok (hs : St h0 h (Lv b L :: Dv L.d D :: F)) (w : D.Wf n) (hq : D.queue.length ≤ 1000000) :
    CallsH Try.prog n_wal_Log_Flush #[ptr b] h fun v h' => v = .int .i64 (flushL L D).1 ∧ St h0 h' (Lv b (flushL L D).2.1 :: Dv L.d (flushL L D).2.2 :: F) := by
  refine C_wal_Log_Flush (some (Addr.mk b 0 none)) ?_
  unfold F_wal_Log_Flush
  simp only [Option.isNone_some, br_false, deref_some, add_mk, Nat.zero_add]
  refine ⟨L.over, St.cell0 (i := 5) hs rfl, ?_⟩
  cases hov : L.over
  · have e : flushL L D = ((flushD D).1, overL L (flushD D).1, (flushD D).2) := by rw [flushL, hov]; rfl
    rw [e]
    refine br_no rfl ⟨_, St.cell0 (i := 0) hs rfl, ?_⟩
    refine (flush_ok hs.up1 w hq).mono fun v h5 ⟨hv, s⟩ => ⟨_, hv, ?_⟩
    exact (ldone_ok s.up1 _).mono fun v h8 ⟨hv, s⟩ => ⟨_, hv, rfl, s⟩
  · have e : flushL L D = (6, L, D) := by rw [flushL, hov]; rfl
    rw [e]
    exact br_yes rfl ⟨rfl, hs⟩
theorem append_ok {xs : List UInt8} {p : Option Addr} {l c : Nat} (hs : St h0 h (Lv b L :: Dv L.d D :: rdo 1 p l (bcs xs) :: F)) (hlc : l ≤ c) (hmx : l ≤ 1000000000) (w : D.Wf n) (lw : L.Wf n) (hq : D.queue.length ≤ 900000) :
    CallsH Try.prog n_wal_Log_Append #[ptr b, .slice p l c] h fun v h' => v = .int .i64 (appendD L D xs).1 ∧ St h0 h' (Lv b (appendD L D xs).2.1 :: Dv L.d (appendD L D xs).2.2 :: rdo 1 p l (bcs xs) :: F) := by
  refine C_wal_Log_Append (some (Addr.mk b 0 none)) p l c ?_
  unfold F_wal_Log_Append
  have hxl := (bs_rdo hs.up2.at).1
  have ln := lw.next
  have lr := lw.room
  have lm := lw.max
  have lg := lw.gen
  refine (parts_ok l hmx).mono fun v h1 ⟨hv, hh⟩ => ?_
  subst hh
  refine ⟨Ext.refl _, _, hv, br_no rfl ?_⟩
  simp only [deref_some, add_mk, Nat.zero_add]
  refine ⟨L.over, St.cell0 (i := 5) hs rfl, ?_⟩
  cases hov : L.over
  rotate_left
  · have e : appendD L D xs = (6, L, D) := by rw [appendD, hov]; rfl
    rw [e]
    exact br_yes rfl ⟨rfl, hs⟩
  refine br_no rfl ?_
  have e0 : appendD L D xs = if 6000 < xs.length then (3, L, D) else if L.count < L.next + partsN xs.length then (5, L, D)
    else if (putA L xs (partsN xs.length) 0 D).1 ≠ 0 then ((putA L xs (partsN xs.length) 0 D).1, overL L (putA L xs (partsN xs.length) 0 D).1, (putA L xs (partsN xs.length) 0 D).2)
    else (0, { L with next := L.next + partsN xs.length }, (putA L xs (partsN xs.length) 0 D).2) := by rw [appendD, hov]; rfl
  rw [e0]
  rw [br_decide]
  refine ⟨fun hgt => ?_, fun hle => ?_⟩
  · rw [if_pos (by omega)]
    exact ⟨rfl, hs⟩
  rw [if_neg (by omega)]
  refine (room_ok hs.at lw).mono fun v h6 ⟨hv, hh⟩ => ?_
  subst hh
  refine ⟨Ext.refl _, _, hv, ?_⟩
  rw [hxl]
  rw [br_decide]
  refine ⟨fun hgt => ?_, fun hle => ?_⟩
  · rw [if_pos (by omega)]
    exact ⟨rfl, hs⟩
  rw [if_neg (by omega)]
  have hN : partsN l = partsN xs.length := by rw [hxl]
  generalize hNN : partsN l = N at *
  have hN1 : 110 * (N - 1) ≤ l ∧ l ≤ 110 * N ∧ 1 ≤ N := by rw [← hNN]; unfold partsN; omega
  refine ⟨fun i h' => ∃ (k : Nat) (E : Dev), i = k ∧ k ≤ N ∧ putA L xs N 0 D = putA L xs (N - k) k E ∧ E.Wf n ∧ E.queue.length ≤ D.queue.length + k ∧ St h0 h' (Lv b L :: Dv L.d E :: rdo 1 p l (bcs xs) :: F), fun i _ => ((N : Int) - i).toNat,
    ⟨0, D, rfl, Nat.zero_le _, rfl, w, Nat.le_refl _, hs⟩, ?_⟩
  clear hs
  rintro i h11 ⟨k, E, rfl, hk, hput, we, hqe, hs⟩
  rw [br_decide]
  refine ⟨fun hlt => ?_, fun hge => ?_⟩
  · have hk55 : N ≤ 4096 := by omega
    refine ⟨_, St.cell0 (i := 3) hs rfl, _, St.cell0 (i := 4) hs rfl, ?_⟩
    rw [wrap_i64 (n := (k : Int) + 1) (by omega) (by omega), wrap_i64 (n := (k : Int) * 110) (by omega) (by omega), wrap_i64 (n := ((k : Int) + 1) * 110) (by omega) (by omega), wrap_i64 (n := (L.next : Int) + k) (by omega) (by omega), wrap_i64 (n := (L.next : Int) + k + 1) (by omega) (by omega)]
    have hlo : (k : Int) * 110 = ((110 * k : Nat) : Int) := by omega
    have hhi : minI (((k : Int) + 1) * 110) (l : Int) = ((min (110 * k + 110) l : Nat) : Int) := by unfold minI; split <;> omega
    have hpl : ((L.next : Int) + k + 1) = ((L.next + k + 1 : Nat) : Int) := by omega
    rw [hlo, hhi, hpl]
    have hkl : 110 * k ≤ l := by omega
    refine sliceP_mid (l := l) (by omega) (by omega) hlc ?_
    have hpart : (xs.drop (110 * k)).take (min (110 * k + 110) l - 110 * k) = partB xs k := by
      rw [partB]
      by_cases hc : 110 * k + 110 ≤ l
      · congr 1; omega
      · rw [List.take_of_length_le (by rw [List.length_drop]; omega), List.take_of_length_le (by rw [List.length_drop]; omega)]
    have hbs : ∀ {h' : Heap} {G : List HP}, St h0 h' (rdo 1 p l (bcs xs) :: G) → Bs h' (if c = 110 * k then p else p.map fun a => a.add (110 * k * 1)) (min (110 * k + 110) l - 110 * k) (partB xs k) := fun s => by
      have hb := Bs.mid (bs_rdo s.at) (n := 110 * k) (m := min (110 * k + 110) l) (by omega) (by omega) hlc
      rwa [hpart] at hb
    generalize (if c = 110 * k then p else p.map fun a => a.add (110 * k * 1)) = p16 at *
    generalize hm17 : min (110 * k + 110) l - 110 * k = l17 at *
    refine hs.newBlk fun b19 h20 _ s _ => ?_
    refine s.storeAll (by simp) (by simp) (one_part _ _ _ _ _ _) fun h21 s => ?_
    have w1 : (if k = 0 then 1 else 0 : Nat) ≤ 1 := by split <;> omega
    refine ⟨fun _ h' => St h0 h' (pts b19 0 false [.int .u32 L.gen, .int .i64 ((L.next + k + 1 : Nat) : Int), .int .i64 ((if k = 0 then 1 else 0 : Nat) : Int), .slice p16 l17 (c - 110 * k)] :: Lv b L :: Dv L.d E :: rdo 1 p l (bcs xs) :: F), ?_, ?_⟩
    · rw [br_beq]
      refine ⟨fun h0k => ⟨_, s.cell0 (i := 2) rfl, s.store0 (i := 2) (by simp) rfl fun h24 s => ?_⟩, fun h0k => ?_⟩
      · rw [if_pos (by omega)]
        exact s
      · rw [if_neg (by omega)]
        exact s
    clear s
    rintro _ h26 s
    have hor : ∀ k1 : Nat, k1 ≤ 1 → orI .i64 (k1 : Int) 2 = ((k1 + 2 : Nat) : Int) := fun k1 h => by
      have : k1 = 0 ∨ k1 = 1 := by omega
      rcases this with rfl | rfl <;> rfl
    refine ⟨fun _ h' => St h0 h' (pts b19 0 false [.int .u32 L.gen, .int .i64 ((L.next + k + 1 : Nat) : Int), .int .i64 ((kindN k N : Nat) : Int), .slice p16 l17 (c - 110 * k)] :: Lv b L :: Dv L.d E :: rdo 1 p l (bcs xs) :: F), ?_, ?_⟩
    · rw [wrap_i64 (n := (N : Int) - 1) (by omega) (by omega), br_beq]
      unfold kindN
      refine ⟨fun he => ⟨_, s.cell0 (i := 2) rfl, s.store0 (i := 2) (by simp) rfl fun h29 s => ?_⟩, fun hne => ?_⟩
      · rw [if_pos (show k + 1 = N by omega)]
        rw [hor _ w1] at s
        exact s
      · rw [if_neg (show ¬ k + 1 = N by omega)]
        exact s
    clear s
    rintro _ h31 s
    refine ⟨_, s.row0 rfl, ?_⟩
    have hkd := kindN_le k N
    refine (page9_ok (hbs s.up3) (partB_len xs k) (q := L.next + k + 1) lg (by omega) (by omega)).mono fun v h34 ⟨p35, l36, c37, hv, nw⟩ => ⟨nw.ext, p35, l36, c37, 0, hv, br_no rfl ?_⟩
    have s := s.join nw
    simp only [List.cons_append, List.nil_append] at s
    have s := s.ro.up1.drop.up1
    refine ⟨_, St.cell0 (i := 0) s rfl, _, St.cell0 (i := 1) s rfl, _, St.cell0 (i := 4) s rfl, ?_⟩
    have hix : IntKind.wrap .i64 (IntKind.wrap .i64 ((L.start : Int) + L.next) + k) = ((L.start + L.next + k : Nat) : Int) := by
      rw [wrap_i64 (n := (L.start : Int) + L.next) (by omega) (by omega), wrap_i64 (by omega) (by omega)]
      omega
    rw [hix]
    have hpg : pageW L.gen (L.next + k + 1) (kindN k N) (partB xs k) = pageA L xs k := by rw [pageA, ← hN]
    rw [hpg] at s
    refine (write_ok s.up1.up2 we ((L.start + L.next + k : Nat) : Int) (by omega)).mono fun v h46 ⟨hv, s⟩ => ⟨_, hv, ?_⟩
    have hN' : N - k = (N - (k + 1)) + 1 := by omega
    rw [hN', putA_succ] at hput
    have hqw := writeD_q (D := E) ((L.start + L.next + k : Nat) : Int) (pageA L xs k)
    have s := s.up1.drop.up1
    rw [br_bne]
    refine ⟨fun hne => ?_, fun heq => ?_⟩
    · rw [if_pos hne] at hput
      rw [hput, if_pos hne]
      exact (ldone_ok s _).mono fun v h49 ⟨hv, s⟩ => ⟨_, hv, rfl, s⟩
    · rw [if_neg (by simpa using heq)] at hput
      exact ⟨⟨k + 1, _, by omega, by omega, hput, writeD_wf we _ _, by omega, s⟩, by show ((N : Int) - ((k : Int) + 1)).toNat < ((N : Int) - (k : Int)).toNat; omega⟩
  · obtain rfl : k = N := by omega
    rw [Nat.sub_self] at hput
    have hput : putA L xs k 0 D = (0, E) := hput
    rw [hput, if_neg (by simp)]
    refine ⟨_, St.cell0 (i := 4) hs rfl, ?_⟩
    rw [wrap_i64 (by omega) (by omega)]
    unfold Lv at hs
    refine hs.store0 (i := 4) (by simp) rfl fun h54 s => ⟨rfl, ?_⟩
    unfold Lv
    simp only [List.set_cons_succ, List.set_cons_zero, Int.natCast_add] at s ⊢
    exact s
end
end Go.Proofs.Ytbmhphnidfpclaa
/- Layer 9: a log is opened. -/
set_option linter.unusedVariables false
set_option maxRecDepth 100000
namespace Go.Proofs.Ytbmhphnidfpclaa
open Go Go.Vc Go.Proofs
/-- The records of pages, and where the next one begins. -/
def scanL : List (List UInt8) → Nat → Nat → Nat → List UInt8 → List (List UInt8) → Nat → List (List UInt8) × Nat
  | [], _, _, _, _, recs, nx => (recs, nx)
  | p :: ps, at_, least, bg, rc, recs, nx => match decW p (at_ + 1) least with
    | none => (recs, nx)
    | some (g, k, b) => if ¬(bg = 0 ↔ k % 2 = 1) ∨ (bg ≠ 0 ∧ g ≠ bg) ∨ 6000 < (rc ++ b).length then (recs, nx)
      else if k / 2 % 2 = 1 then scanL ps (at_ + 1) g 0 [] (recs ++ [rc ++ b]) (at_ + 1) else scanL ps (at_ + 1) g g (rc ++ b) recs nx
def scanD (D : Dev) (start count least : Nat) : List (List UInt8) × Nat := scanL ((D.seen.drop start).take count) 0 least 0 [] [] 0
theorem scanL_cons (p : List UInt8) (ps : List (List UInt8)) (at_ least bg : Nat) (rc : List UInt8) (recs : List (List UInt8)) (nx : Nat) : scanL (p :: ps) at_ least bg rc recs nx = match decW p (at_ + 1) least with
    | none => (recs, nx)
    | some (g, k, b) => if ¬(bg = 0 ↔ k % 2 = 1) ∨ (bg ≠ 0 ∧ g ≠ bg) ∨ 6000 < (rc ++ b).length then (recs, nx)
      else if k / 2 % 2 = 1 then scanL ps (at_ + 1) g 0 [] (recs ++ [rc ++ b]) (at_ + 1) else scanL ps (at_ + 1) g g (rc ++ b) recs nx := rfl
theorem scanL_le : ∀ (ps : List (List UInt8)) (at_ least bg : Nat) (rc : List UInt8) (recs : List (List UInt8)) (nx : Nat), nx ≤ at_ + ps.length → (scanL ps at_ least bg rc recs nx).2 ≤ at_ + ps.length
  | [], at_, least, bg, rc, recs, nx, h => h
  | p :: ps, at_, least, bg, rc, recs, nx, h => by
    unfold scanL
    simp only [List.length_cons] at h ⊢
    split
    · exact h
    · split
      · exact h
      · split
        · rename_i g k b _ _ _
          have := scanL_le ps (at_ + 1) g 0 [] (recs ++ [rc ++ b]) (at_ + 1) (Nat.le_add_right _ _)
          rw [show at_ + (ps.length + 1) = at_ + 1 + ps.length by omega]; exact this
        · rename_i g k b _ _ _
          have := scanL_le ps (at_ + 1) g g (rc ++ b) recs nx (by omega)
          rw [show at_ + (ps.length + 1) = at_ + 1 + ps.length by omega]; exact this
section
variable {h0 h : Heap} {F G : List HP} {b n : Nat} {D : Dev} {L : Lg}
theorem may_ok (a : At h (Dv b D)) (w : D.Wf n) {start count least gen : Nat} (hr : start + count ≤ n) (h1 : 1 ≤ least) (hg : least ≤ gen) :
    CallsH Try.prog n_wal_may #[ptr b, .int .i64 start, .int .i64 count, .int .u32 least, .int .u32 gen] h fun v h' => v = .bool true ∧ h' = h := by
  refine C_wal_may (some (Addr.mk b 0 none)) start count least gen ?_
  unfold F_wal_may
  have hn := w.len
  have hm := w.max
  refine br_yes rfl (br_yes (by simp) (br_yes (by simp) ?_))
  refine (pages_ok a).mono fun v h1 ⟨hv, hh⟩ => ?_
  subst hh
  refine ⟨Ext.refl _, _, hv, br_yes (by simp; omega) ?_⟩
  refine (pages_ok a).mono fun v h4 ⟨hv, hh⟩ => ?_
  subst hh
  refine ⟨Ext.refl _, _, hv, br_yes ?_ (br_yes (by simp; omega) ⟨?_, by trivial⟩)⟩
  · rw [wrap_i64 (by omega) (by omega)]; simp; omega
  · rw [decide_eq_true (by omega)]
theorem St.three {A B C : HP} (hs : St h0 h (A :: B :: C :: F)) : St h0 h [A, B, C] := hs.conseq fun m ⟨m1, m2, a1, a2, c1, q1, m3, m4, a3, a4, c2, q2, m5, m6, a5, a6, c3, q3, _⟩ =>
  ⟨m1, m2, a1, a2, c1, q1, m3, m4, a3, a4, c2, q2, m5, m6, a5, a6, c3, q3, trivial⟩
theorem St.two {A B : HP} (hs : St h0 h (A :: B :: F)) : St h0 h [A, B] := hs.conseq fun m ⟨m1, m2, a1, a2, c1, q1, m3, m4, a3, a4, c2, q2, _⟩ => ⟨m1, m2, a1, a2, c1, q1, m3, m4, a3, a4, c2, q2, trivial⟩
theorem St.one {A : HP} (hs : St h0 h (A :: F)) : St h0 h [A] := hs.conseq fun m ⟨m1, m2, a1, a2, c1, q1, _⟩ => ⟨m1, m2, a1, a2, c1, q1, trivial⟩
/-- What opening a log answers. -/
def Opened (h : Heap) (d start count gen : Nat) (r : List (List UInt8) × Nat) (v : Value) (h' : Heap) : Prop :=
  ∃ (lb : Nat) (p : Option Addr) (l c : Nat) (S : List Pg), v = .tuple #[ptr lb, .slice p l c, .int .i64 0] ∧ rL S = r.1 ∧ New h h' [Lv lb ⟨d, start, count, gen, r.2, false⟩, own 1 p l c (S.map (·.1.v)), owns S]
theorem open_ok (a : At h (Dv b D)) (w : D.Wf n) (hd : D.down = false) {start count least gen : Nat} (hr : start + count ≤ n) (h1 : 1 ≤ least) (hg : least ≤ gen) (hgm : gen < 4294967296) :
    CallsH Try.prog n_wal_Open #[ptr b, .int .i64 start, .int .i64 count, .int .u32 least, .int .u32 gen] h (Opened h b start count gen (scanD D start count least)) := by
  refine C_wal_Open (some (Addr.mk b 0 none)) start count least gen ?_
  unfold F_wal_Open
  have hm := w.max
  have hsl := w.seenLen
  refine (may_ok a w hr h1 hg).mono fun v h1' ⟨hv, hh⟩ => ?_
  subst hh
  refine ⟨Ext.refl _, true, hv, br_no rfl ((St.start h1').newBlk fun b3 h4 _ s _ => ?_)⟩
  unfold scanD
  generalize hpgs : (D.seen.drop start).take count = pgs
  have hpl : pgs.length = count := by rw [← hpgs, List.length_take, List.length_drop]; omega
  have hpg : ∀ k (hk : k < pgs.length), readD D ((start + k : Nat) : Int) = (pgs[k], 0) ∧ pgs[k].length = 128 := fun k hk => by
    have hlt : start + k < D.seen.length := by omega
    have e : pgs[k] = D.seen[start + k] := by
      subst hpgs
      rw [List.getElem_take, List.getElem_drop]
    refine ⟨?_, by rw [e]; exact w.seenPages _ (List.getElem_mem _)⟩
    rw [readD, if_pos (reach_zero w hd (by omega)), Int.toNat_natCast, List.getD_eq_getElem?_getD, List.getElem?_eq_getElem hlt, e]; rfl
  have fin : ∀ {h' : Heap} {G : List HP} {p : Option Addr} {l c nx : Nat} {S : List Pg}, scanL pgs 0 least 0 [] [] 0 = (rL S, nx) → St h1' h' (Lv b3 ⟨b, start, count, gen, nx, false⟩ :: own 1 p l c (S.map (·.1.v)) :: owns S :: G) →
      Opened h1' b start count gen (scanL pgs 0 least 0 [] [] 0) (.tuple #[ptr b3, .slice p l c, .int .i64 0]) h' := by
    intro h' G p l c nx S he s
    rw [he]
    exact ⟨b3, p, l, c, S, rfl, rfl, (St.three s).new ⟨owns_Lv, owns_own, owns_owns S, trivial⟩⟩
  have s : St h1' h4 [Lv b3 ⟨b, start, count, gen, 0, false⟩] := s
  refine ⟨fun st h' => ∃ (k lst : Nat) (S : List Pg), st.1 = lst ∧ st.2.2 = k ∧ k ≤ count ∧ 1 ≤ lst ∧ lst < 4294967296 ∧ S.length ≤ k ∧ scanL pgs 0 least 0 [] [] 0 = scanL (pgs.drop k) k lst 0 [] (rL S) k ∧
    St h1' h' [Lv b3 ⟨b, start, count, gen, k, false⟩, own 1 st.2.1.1 st.2.1.2.1 st.2.1.2.2 (S.map (·.1.v)), owns S], fun st _ => ((count : Int) - st.2.2).toNat,
    ⟨0, least, [], rfl, rfl, Nat.zero_le _, h1, by omega, Nat.le_refl _, rfl, ((s.ownsNil).nil 1).up2⟩, ?_⟩
  clear s
  rintro ⟨lst', ⟨sp, sl, sc⟩, i⟩ h8 ⟨k0, lst0, S, rfl, rfl, hk0, hl0, hl0', hS0, hsc0, s⟩
  dsimp only at *
  rw [br_decide]
  refine ⟨fun hlt0 => ?_, fun hge => ?_⟩
  rotate_left
  · obtain rfl : k0 = count := by omega
    rw [List.drop_of_length_le (by omega)] at hsc0
    exact fin hsc0 s
  refine ⟨fun st h' => ∃ (k lst bg nx : Nat) (rc : List UInt8), st.1 = lst ∧ st.2.1 = (sp, sl, sc) ∧ st.2.2.1 = k ∧ st.2.2.2.2 = bg ∧ k0 ≤ k ∧ k ≤ count ∧ 1 ≤ lst ∧ lst < 4294967296 ∧ bg < 4294967296 ∧ rc.length ≤ 6000 ∧ scanL pgs 0 least 0 [] [] 0 = scanL (pgs.drop k) k lst bg rc (rL S) k0 ∧
    St h1' h' [Lv b3 ⟨b, start, count, gen, k0, false⟩, own 1 sp sl sc (S.map (·.1.v)), owns S, own 1 st.2.2.2.1.1 st.2.2.2.1.2.1 st.2.2.2.1.2.2 (bcs rc)], fun st _ => ((count : Int) - st.2.2.1).toNat,
    ⟨k0, lst0, 0, 0, [], rfl, rfl, rfl, rfl, Nat.le_refl _, hk0, hl0, hl0', by omega, by simp, hsc0, (s.nil 1).up3.up3.up3⟩, ?_⟩
  clear s
  rintro ⟨lst', ⟨sp', sl', sc'⟩, i, ⟨rp, rl, rcc⟩, bg'⟩ h12 ⟨k, lst, bg, nx, rc, rfl, hsp, rfl, rfl, hkk, hk, hl, hl', hbg, hrc, hsc, s⟩
  dsimp only at *
  obtain ⟨rfl, rfl, rfl⟩ : sp = sp' ∧ sl = sl' ∧ sc = sc' := by simpa [eq_comm] using hsp
  rw [br_beq]
  refine ⟨fun hkc => ?_, fun hkc => ?_⟩
  · obtain rfl : k = count := by omega
    rw [List.drop_of_length_le (by omega)] at hsc
    exact fin hsc s
  have hkl : k < pgs.length := by omega
  obtain ⟨hread, hp128⟩ := hpg k hkl
  rw [wrap_i64 (by omega) (by omega), wrap_i64 (by omega) (by omega)]
  have hix : (start : Int) + k = ((start + k : Nat) : Int) := by omega
  rw [hix]
  rw [List.drop_eq_getElem_cons hkl, scanL_cons] at hsc
  have s0 := s.ext
  refine (read_ok (a.ext s.ext) w ((start + k : Nat) : Int)).mono fun v h14 ⟨p15, l16, c17, hv, nw⟩ => ?_
  rw [hread] at hv nw
  refine ⟨nw.ext, p15, l16, c17, 0, hv, br_no rfl ?_⟩
  have hpl1 : (k : Int) + 1 = ((k + 1 : Nat) : Int) := by omega
  rw [hpl1]
  refine (parted_ok (bs_own nw.st.at) hp128 (place := k + 1) (least := lst) (by omega) hl').mono fun v h20 ⟨g, pl, kd, p', l', c', t, part, hv, hdec, hpart, hkd, nw2⟩ => ⟨nw2.ext, _, rfl, t, hv, ?_⟩
  have s := (s.keep nw.ext).join nw2
  simp only [List.cons_append, List.nil_append] at s
  refine s.newBlk fun b23 h24 _ s _ => s.storeAll (by simp) (by simp) (one_part _ _ _ _ _ _) fun h25 s => ?_
  have s : St h1' h25 [Lv b3 ⟨b, start, count, gen, k0, false⟩, own 1 sp sl sc (S.map (·.1.v)), owns S, pts b23 0 false [.int .u32 g, .int .i64 pl, .int .i64 kd, .slice p' l' c'], own 1 p' l' c' (bcs part), own 1 rp rl rcc (bcs rc)] := s.up4.up4.up4
  cases t
  · have hdec : decW pgs[k] (k + 1) lst = none := hdec
    rw [hdec] at hsc
    exact ⟨fun _ _ => False, br_yes rfl (fin hsc s), fun _ _ hf => hf.elim⟩
  have hdec : decW pgs[k] (k + 1) lst = some (g, kd, part) := hdec
  rw [hdec] at hsc
  dsimp only at hsc
  have hg1 : 1 ≤ g ∧ g < 4294967296 := by
    unfold decW at hdec
    split at hdec
    · rename_i hh
      have h1 := hh.2.2.2.2.2.2
      have h2 := mk9_lt pgs[k]
      cases hdec
      omega
    · cases hdec
  simp only [add_mk, Nat.zero_add]
  refine ⟨fun _ h' => ¬(¬(bg = 0 ↔ kd % 2 = 1) ∨ (bg ≠ 0 ∧ g ≠ bg)) ∧ St h1' h' [Lv b3 ⟨b, start, count, gen, k0, false⟩, own 1 sp sl sc (S.map (·.1.v)), owns S, pts b23 0 false [.int .u32 g, .int .i64 pl, .int .i64 kd, .slice p' l' c'], own 1 p' l' c' (bcs part), own 1 rp rl rcc (bcs rc)], ?_, ?_⟩
  · refine br_no rfl ⟨_, s.up3.cell0 (i := 2) rfl, ?_⟩
    rw [andI_1 hkd]
    have e1 : ((bg : Int) == 0) = decide (bg = 0) := by rw [Bool.eq_iff_iff, beq_iff_eq, decide_eq_true_iff]; omega
    have e2 : (((kd % 2 : Nat) : Int) != 0) = decide (kd % 2 = 1) := by rw [Bool.eq_iff_iff, bne_iff_ne, decide_eq_true_iff]; omega
    rw [e1, e2]
    by_cases hc1 : (bg = 0 ↔ kd % 2 = 1)
    · have e3 : (decide (bg = 0) == decide (kd % 2 = 1)) = true := by rw [beq_iff_eq, decide_eq_decide]; exact hc1
      rw [e3]
      refine br_no rfl ?_
      rw [br_bne]
      refine ⟨fun hb0 => ⟨_, s.up3.cell0 (i := 0) rfl, ?_⟩, fun hb0 => ⟨fun hh => hh.elim (fun h => h hc1) (fun h => h.1 (by omega)), s⟩⟩
      rw [br_bne]
      refine ⟨fun hne => ?_, fun heq => ⟨fun hh => hh.elim (fun h => h hc1) (fun h => h.2 (by omega)), s⟩⟩
      rw [if_pos (.inr (.inl ⟨by omega, by omega⟩))] at hsc
      exact fin hsc s
    · have e3 : (decide (bg = 0) == decide (kd % 2 = 1)) = false := by
        rw [beq_eq_false_iff_ne]
        intro e
        exact hc1 (decide_eq_decide.1 e)
      rw [e3]
      rw [if_pos (.inl hc1)] at hsc
      exact br_yes rfl (fin hsc s)
  clear s
  rintro _ h30 ⟨hcond, s⟩
  refine ⟨_, s.up3.cell0 (i := 0) rfl, _, s.up3.cell0 (i := 0) rfl, _, _, _, s.up3.cell0 (i := 3) rfl, ?_⟩
  have s := s.up4.up5
  have hl' := s.up1.len.1
  have hrl := s.len.1
  rw [bcs_length] at hl' hrl
  refine St.append s (rd_own s.up1.at) (one_bcs part) rfl (by omega) (by unfold maxLen; omega) fun p36 c38 h39 s _ => ?_
  rw [← bcs_append] at s
  rw [br_decide]
  refine ⟨fun hgt => ?_, fun hle => ?_⟩
  · rw [if_pos (.inr (.inr (by rw [List.length_append]; omega)))] at hsc
    exact fin hsc s.up4.up4.up4
  rw [if_neg (fun hh => hh.elim (fun h => hcond (.inl h)) (fun h => h.elim (fun h => hcond (.inr h)) (fun h => by rw [List.length_append] at h; omega)))] at hsc
  have s := s.up4.up4.up4
  have hSl := s.up1.len.1
  simp only [List.length_map, Nat.mul_one] at hSl
  refine ⟨_, s.up5.cell0 (i := 2) rfl, ?_⟩
  rw [andI_2 hkd, br_bne]
  refine ⟨fun hl2 => ?_, fun hl2 => ?_⟩
  · rw [if_pos (show kd / 2 % 2 = 1 by omega)] at hsc
    refine s.newBlk fun b41 h42 _ s _ => ?_
    refine St.append (xs := [Sl.v (p36, rl + l', c38)]) s.up2 ⟨rfl, by simp only [src, Nat.one_mul]; exact s.row0 rfl⟩ (by intro v hv; simp only [List.mem_singleton] at hv; subst hv; rfl) rfl (by omega) (by unfold maxLen; omega) fun p43 c45 h46 s _ => ?_
    have s := s.up2
    unfold Lv at s
    refine s.store0 (i := 4) (by simp) rfl fun h47 s => ?_
    have s := s.up4.up4.ownsAdd
    have s := s.up2.up2
    simp only [List.set_cons_succ, List.set_cons_zero] at s
    refine ⟨⟨k + 1, g, S ++ [((p36, rl + l', c38), rc ++ part)], rfl, rfl, by omega, by omega, by omega, by simp; omega, ?_, ?_⟩, by show ((count : Int) - ((k + 1 : Nat) : Int)).toNat < ((count : Int) - (k0 : Int)).toNat; omega⟩
    · rw [hsc]; simp [rL]
    · simp only [List.map_append, List.map_cons, List.map_nil]
      exact St.three s
  · rw [if_neg (show ¬ kd / 2 % 2 = 1 by omega)] at hsc
    refine ⟨⟨k + 1, g, g, nx, rc ++ part, rfl, by trivial, rfl, rfl, by omega, by omega, by omega, by omega, by omega, by rw [List.length_append]; omega, hsc, ?_⟩, by show ((count : Int) - ((k + 1 : Nat) : Int)).toNat < ((count : Int) - (k : Int)).toNat; omega⟩
    exact s.conseq fun m ⟨m1, m2, a1, a2, c1, q1, m3, m4, a3, a4, c2, q2, m5, m6, a5, a6, c3, q3, m7, m8, a7, a8, c4, q4, _⟩ => ⟨m1, m2, a1, a2, c1, q1, m3, m4, a3, a4, c2, q2, m5, m6, a5, a6, c3, q3, m7, m8, a7, a8, c4, q4, trivial⟩
end
end Go.Proofs.Ytbmhphnidfpclaa
/- Layer 9: the records that are found are those that were appended (no program in sight). -/
set_option linter.unusedVariables false
set_option maxRecDepth 100000
namespace Go.Proofs.Ytbmhphnidfpclaa
open Go Go.Vc Go.Proofs
def zeroP : List UInt8 := List.replicate 128 0
theorem numB_one {k : Nat} (hk : k < 256) : valB (numB k 1) = k := by rw [valB_numB, Nat.mod_eq_of_lt (by omega)]
theorem decW_page {g p k least : Nat} {b : List UInt8} (hb : b.length ≤ 110) (hp : p < 4294967296) (hg : g < 4294967296) (hk : k ≤ 3) (hw : b.length = 110 ∨ k / 2 % 2 = 1) :
    decW (pageW g p k b) p least = if least ≤ g then some (g, k, b) else none := by
  have hm : markN g p < 18446744073709551616 := by unfold markN; omega
  have e1 : mk9 (pageW g p k b) = markN g p := by
    unfold mk9 pageW
    simp only [List.append_assoc]
    rw [take_num, valB_numB, Nat.mod_eq_of_lt (by simpa using hm)]
  have e2 : kd9 (pageW g p k b) = k := by
    unfold kd9 pageW
    simp only [List.append_assoc]
    rw [drop_num, take_num, numB_one (by omega)]
  have hd9 : (pageW g p k b).drop 9 = numB b.length 1 ++ (b ++ (List.replicate (110 - b.length) 0 ++ numB (markN g p) 8)) := by
    have : pageW g p k b = (numB (markN g p) 8 ++ numB k 1) ++ (numB b.length 1 ++ (b ++ (List.replicate (110 - b.length) 0 ++ numB (markN g p) 8))) := by simp [pageW]
    rw [this, List.drop_append, List.drop_of_length_le (by simp [numB_length])]
    simp [numB_length]
  have hd10 : (pageW g p k b).drop 10 = b ++ (List.replicate (110 - b.length) 0 ++ numB (markN g p) 8) := by
    have : (pageW g p k b).drop 10 = ((pageW g p k b).drop 9).drop 1 := by rw [List.drop_drop]
    rw [this, hd9, drop_num]
  have e3 : ct9 (pageW g p k b) = b.length := by
    unfold ct9
    rw [hd9, take_num, numB_one (by omega)]
  have e4 : tx9 (pageW g p k b) = b := by
    unfold tx9
    rw [hd10, e3, List.take_append_of_le_length (Nat.le_refl _), List.take_length]
  have e5 : (pageW g p k b).drop (10 + b.length) = List.replicate (110 - b.length) 0 ++ numB (markN g p) 8 := by
    rw [← List.drop_drop, hd10, List.drop_append, List.drop_of_length_le (Nat.le_refl _), Nat.sub_self]; rfl
  have e6 : tl9 (pageW g p k b) = markN g p := by
    unfold tl9
    have : (pageW g p k b).drop 120 = ((pageW g p k b).drop (10 + b.length)).drop (110 - b.length) := by rw [List.drop_drop]; congr 1; omega
    rw [this, e5, List.drop_append, List.drop_of_length_le (by simp)]
    simp only [List.length_replicate, Nat.sub_self, List.nil_append, List.drop_zero]
    rw [valB_numB, Nat.mod_eq_of_lt (by simpa using hm)]
  have hdiv : markN g p / 4294967296 = g := by unfold markN; omega
  have hmod : markN g p % 4294967296 = p := by unfold markN; omega
  unfold decW
  rw [e1, e2, e3, e4, e5, e6, hdiv, hmod]
  have hz : ∀ x ∈ (List.replicate (110 - b.length) (0 : UInt8) ++ numB (markN g p) 8).take (110 - b.length), x = 0 := by
    rw [List.take_append_of_le_length (by simp), List.take_of_length_le (by simp)]
    intro x hx
    exact (List.mem_replicate.1 hx).2
  by_cases hl : least ≤ g
  · rw [if_pos hl, if_pos ⟨hb, hz, rfl, hw, hk, rfl, hl⟩]
  · rw [if_neg hl, if_neg (fun hh => hl hh.2.2.2.2.2.2)]
theorem decW_zero {p least : Nat} (hp : p ≠ 0) : decW zeroP p least = none := by
  have : mk9 zeroP = 0 := by decide
  rw [decW, if_neg]
  rintro ⟨_, _, _, _, _, h, _⟩
  rw [this] at h
  exact hp (by omega)
/-- The pages of a record, from a part on. -/
def recQ (g at_ : Nat) (b : List UInt8) (N : Nat) : Nat → Nat → List (List UInt8)
  | 0, _ => []
  | k + 1, i => pageW g (at_ + i + 1) (kindN i N) (partB b i) :: recQ g at_ b N k (i + 1)
theorem recQ_length (g at_ : Nat) (b : List UInt8) (N : Nat) : ∀ k i, (recQ g at_ b N k i).length = k
  | 0, _ => rfl
  | k + 1, i => by rw [recQ, List.length_cons, recQ_length g at_ b N k (i + 1)]
def recP (g at_ : Nat) (b : List UInt8) : List (List UInt8) := recQ g at_ b (partsN b.length) (partsN b.length) 0
theorem recP_length (g at_ : Nat) (b : List UInt8) : (recP g at_ b).length = partsN b.length := recQ_length ..
def partsS : List (List UInt8) → Nat
  | [] => 0
  | b :: r => partsN b.length + partsS r
def recsP (g : Nat) : Nat → List (List UInt8) → List (List UInt8)
  | _, [] => []
  | at_, b :: r => recP g at_ b ++ recsP g (at_ + partsN b.length) r
theorem partsS_append : ∀ (a b : List (List UInt8)), partsS (a ++ b) = partsS a + partsS b
  | [], b => by simp [partsS]
  | x :: a, b => by rw [List.cons_append, partsS, partsS, partsS_append a b, Nat.add_assoc]
theorem recsP_append (g : Nat) : ∀ (at_ : Nat) (a b : List (List UInt8)), recsP g at_ (a ++ b) = recsP g at_ a ++ recsP g (at_ + partsS a) b
  | at_, [], b => by simp [recsP, partsS]
  | at_, x :: a, b => by rw [List.cons_append, recsP, recsP, recsP_append g _ a b, partsS, List.append_assoc, Nat.add_assoc]
theorem recsP_length (g : Nat) : ∀ (at_ : Nat) (a : List (List UInt8)), (recsP g at_ a).length = partsS a
  | at_, [] => rfl
  | at_, x :: a => by rw [recsP, List.length_append, recP_length, recsP_length g _ a, partsS]
theorem partsS_snoc (a : List (List UInt8)) (b : List UInt8) : partsS (a ++ [b]) = partsS a + partsN b.length := by rw [partsS_append]; simp [partsS]
theorem recsP_snoc (g at_ : Nat) (a : List (List UInt8)) (b : List UInt8) : recsP g at_ (a ++ [b]) = recsP g at_ a ++ recP g (at_ + partsS a) b := by rw [recsP_append]; simp [recsP]
theorem parts_pos (n : Nat) : 1 ≤ partsN n := by unfold partsN; omega
theorem kindN_first (i N : Nat) : kindN i N % 2 = 1 ↔ i = 0 := by unfold kindN; split <;> split <;> omega
theorem kindN_last (i N : Nat) : kindN i N / 2 % 2 = 1 ↔ i + 1 = N := by unfold kindN; split <;> split <;> omega
theorem take_part (b : List UInt8) (i : Nat) : b.take (110 * i) ++ partB b i = b.take (110 * (i + 1)) := by
  rw [partB, show 110 * (i + 1) = 110 * i + 110 by omega, List.take_add]
theorem part_full {b : List UInt8} {i : Nat} (h : i + 1 < partsN b.length) : (partB b i).length = 110 := by
  unfold partsN at h
  rw [partB, List.length_take, List.length_drop]
  omega
theorem scan_recQ {g at_ : Nat} {b : List UInt8} {rest : List (List UInt8)} (hb : b.length ≤ 6000) (hg : g < 4294967296) (hg1 : 1 ≤ g) (ha : at_ + partsN b.length < 1000000000) : ∀ (k i lst : Nat) (recs : List (List UInt8)) (nx : Nat), i + k = partsN b.length → 1 ≤ k → lst ≤ g →
    scanL (recQ g at_ b (partsN b.length) k i ++ rest) (at_ + i) lst (if i = 0 then 0 else g) (b.take (110 * i)) recs nx = scanL rest (at_ + partsN b.length) g 0 [] (recs ++ [b]) (at_ + partsN b.length)
  | 0, i, _, _, _, _, h, _ => by omega
  | k + 1, i, lst, recs, nx, hik, _, hl => by
    have hkl := kindN_last i (partsN b.length)
    have hkf := kindN_first i (partsN b.length)
    have hdec : decW (pageW g (at_ + i + 1) (kindN i (partsN b.length)) (partB b i)) (at_ + i + 1) lst = some (g, kindN i (partsN b.length), partB b i) := by
      rw [decW_page (partB_len b i) (by omega) hg (kindN_le _ _) ?_, if_pos hl]
      by_cases he : i + 1 = partsN b.length
      · exact .inr (hkl.2 he)
      · exact .inl (part_full (by omega))
    have hlen : (b.take (110 * i) ++ partB b i).length ≤ 6000 := by rw [take_part, List.length_take]; omega
    rw [recQ, List.cons_append, scanL_cons, hdec]
    dsimp only
    rw [if_neg, take_part]
    · by_cases he : i + 1 = partsN b.length
      · obtain rfl : k = 0 := by omega
        rw [if_pos (hkl.2 he), List.take_of_length_le (by unfold partsN at he; omega), ← he]
        rfl
      · rw [if_neg (fun hh => he (hkl.1 hh))]
        have := scan_recQ (rest := rest) hb hg hg1 ha k (i + 1) g recs nx (by omega) (by omega) (Nat.le_refl _)
        rw [if_neg (by omega)] at this
        exact this
    · rintro (h | h | h)
      · apply h
        rw [hkf]
        by_cases h0 : i = 0
        · simp [h0]
        · simp [h0]; omega
      · split at h <;> omega
      · omega
theorem scan_rec {g at_ : Nat} {b : List UInt8} {rest : List (List UInt8)} (hb : b.length ≤ 6000) (hg : g < 4294967296) (hg1 : 1 ≤ g) (ha : at_ + partsN b.length < 1000000000) {lst : Nat} (hl : lst ≤ g) (recs : List (List UInt8)) (nx : Nat) :
    scanL (recP g at_ b ++ rest) at_ lst 0 [] recs nx = scanL rest (at_ + partsN b.length) g 0 [] (recs ++ [b]) (at_ + partsN b.length) := by
  have := scan_recQ (rest := rest) hb hg hg1 ha (partsN b.length) 0 lst recs nx (by omega) (parts_pos _) hl
  simpa [recP] using this
theorem scan_recs {g : Nat} (hg : g < 4294967296) (hg1 : 1 ≤ g) {rest : List (List UInt8)} : ∀ (rs : List (List UInt8)) (at_ lst : Nat) (recs : List (List UInt8)), (∀ b ∈ rs, b.length ≤ 6000) → at_ + partsS rs < 1000000000 → lst ≤ g →
    ∃ lst', lst ≤ lst' ∧ lst' ≤ g ∧ scanL (recsP g at_ rs ++ rest) at_ lst 0 [] recs at_ = scanL rest (at_ + partsS rs) lst' 0 [] (recs ++ rs) (at_ + partsS rs)
  | [], at_, lst, recs, _, _, hl => ⟨lst, Nat.le_refl _, hl, by simp [recsP, partsS]⟩
  | b :: rs, at_, lst, recs, hb, ha, hl => by
    rw [partsS] at ha
    obtain ⟨l', h1, h2, h3⟩ := scan_recs hg hg1 (rest := rest) rs (at_ + partsN b.length) g (recs ++ [b]) (fun x hx => hb x (List.mem_cons_of_mem _ hx)) (by omega) (Nat.le_refl _)
    refine ⟨l', by omega, h2, ?_⟩
    rw [recsP, List.append_assoc, scan_rec (hb b (List.mem_cons_self ..)) hg hg1 (by omega) hl, h3, partsS, Nat.add_assoc]
    simp
theorem scan_zero {n at_ lst bg nx : Nat} {rc : List UInt8} {recs : List (List UInt8)} : scanL (List.replicate n zeroP) at_ lst bg rc recs nx = (recs, nx) := by
  cases n with
  | zero => rfl
  | succ n => rw [List.replicate_succ, scanL_cons, decW_zero (by omega)]
theorem scan_less {g at_ lst nx : Nat} {b : List UInt8} {rest : List (List UInt8)} {rc : List UInt8} {bg : Nat} {recs : List (List UInt8)} (hb : b.length ≤ 6000) (hg : g < 4294967296) (ha : at_ + partsN b.length < 1000000000) (hl : g < lst) :
    scanL (recP g at_ b ++ rest) at_ lst bg rc recs nx = (recs, nx) := by
  have hp := parts_pos b.length
  have he : partsN b.length = (partsN b.length - 1) + 1 := by omega
  unfold recP
  generalize hN : partsN b.length = N at *
  rw [he, recQ, List.cons_append, scanL_cons]
  have hdec : decW (pageW g (at_ + 0 + 1) (kindN 0 (N - 1 + 1)) (partB b 0)) (at_ + 1) lst = none := by
    rw [show at_ + 0 + 1 = at_ + 1 by omega, decW_page (partB_len b 0) (by omega) hg (kindN_le _ _) ?_, if_neg (by omega)]
    by_cases h1 : 0 + 1 = N - 1 + 1
    · exact .inr ((kindN_last _ _).2 h1)
    · exact .inl (part_full (by omega))
  rw [hdec]
end Go.Proofs.Ytbmhphnidfpclaa
/- Layer 9: a log on a device that keeps its power; lists of bytes held against each other. -/
set_option linter.unusedVariables false
set_option maxRecDepth 100000
namespace Go.Proofs.Ytbmhphnidfpclaa
open Go Go.Vc Go.Proofs
/-- A log's pages, as they are read. -/
def reg (D : Dev) (start count : Nat) : List (List UInt8) := (D.seen.drop start).take count
theorem scanD_reg (D : Dev) (start count least : Nat) : scanD D start count least = scanL (reg D start count) 0 least 0 [] [] 0 := rfl
theorem reg_length {D : Dev} {n start count : Nat} (w : D.Wf n) (h : start + count ≤ n) : (reg D start count).length = count := by
  rw [reg, List.length_take, List.length_drop, w.seenLen]; omega
theorem reg_set {D D' : Dev} {start count j : Nat} {x : List UInt8} (he : D'.seen = D.seen.set (start + j) x) (hj : j < count) : reg D' start count = (reg D start count).set j x := by
  unfold reg
  rw [he]
  apply List.ext_getElem?
  intro i
  simp only [List.getElem?_take, List.getElem?_drop, List.getElem?_set, List.length_take, List.length_drop]
  by_cases hi : i < count
  · rw [if_pos hi]
    by_cases hij : j = i
    · subst hij
      simp only [if_true]
      by_cases hl : start + j < D.seen.length
      · rw [if_pos hl, if_pos (by omega)]
      · rw [if_neg hl, if_neg (by omega)]
    · rw [if_neg (by omega), if_neg hij, if_pos hi]
  · rw [if_neg hi, if_neg (by omega), if_neg hi]
theorem reg_new {n start count : Nat} (h : start + count ≤ n) : reg (newD n) start count = List.replicate count zeroP := by
  have e : (newD n).seen = List.replicate n zeroP := rfl
  unfold reg
  rw [e, List.drop_replicate, List.take_replicate]
  congr 1
  omega
/-- A device that keeps its power. -/
structure On (D : Dev) (n : Nat) : Prop where
  wf : D.Wf n
  up : D.down = false
  fuse : D.fuse = -1
theorem On.op {D : Dev} {n : Nat} (o : On D n) : opD D = D := opD_neg (by rw [o.fuse]; omega)
theorem On.write {D : Dev} {n i : Nat} {xs : List UInt8} (o : On D n) (hi : i < n) (hx : xs.length = 128) :
    (writeD D (i : Int) xs).1 = 0 ∧ On (writeD D (i : Int) xs).2 n ∧ (writeD D (i : Int) xs).2.seen = D.seen.set i xs ∧ (writeD D (i : Int) xs).2.lasts = D.lasts := by
  have hw := writeD_zero o.wf o.up hi hx (by rw [o.op]; exact o.up)
  have wf := writeD_wf o.wf (i : Int) xs
  rw [hw, o.op] at *
  exact ⟨rfl, ⟨wf, o.up, o.fuse⟩, by unfold Dev.seen; rw [applyQ_snoc], rfl⟩
theorem On.flush {D : Dev} {n : Nat} (o : On D n) : (flushD D).1 = 0 ∧ On (flushD D).2 n ∧ (flushD D).2.seen = D.seen := by
  have hf := flushD_zero o.up (by rw [o.op]; exact o.up)
  have wf := flushD_wf o.wf
  rw [hf, o.op] at *
  exact ⟨rfl, ⟨wf, o.up, o.fuse⟩, rfl⟩
theorem on_new {n : Nat} (h : n ≤ 4096) : On (newD n) n := ⟨newD_wf h, rfl, rfl⟩
theorem put_reg {n : Nat} {L : Lg} (lw : L.Wf n) (bs : List UInt8) : ∀ (k i : Nat) (D : Dev) (A C : List (List UInt8)), On D n → reg D L.start L.count = A ++ C → A.length = L.next + i → k ≤ C.length →
    (putA L bs k i D).1 = 0 ∧ On (putA L bs k i D).2 n ∧ reg (putA L bs k i D).2 L.start L.count = A ++ (recQ L.gen L.next bs (partsN bs.length) k i ++ C.drop k)
  | 0, i, D, A, C, o, hr, _, _ => ⟨rfl, o, by rw [recQ, List.nil_append, List.drop_zero]; exact hr⟩
  | k + 1, i, D, A, [], o, hr, ha, hk => by simp at hk
  | k + 1, i, D, A, c :: C, o, hr, ha, hk => by
    have hl := reg_length o.wf lw.room
    have h1 := lw.room
    rw [hr, List.length_append, List.length_cons, ha] at hl
    obtain ⟨e0, o', es, _⟩ := o.write (i := L.start + L.next + i) (xs := pageA L bs i) (by omega) (pageA_len L bs i)
    rw [putA_succ, if_neg (by simpa using e0)]
    have hr' := reg_set (D := D) (j := L.next + i) (by rw [← Nat.add_assoc]; exact es) (show L.next + i < L.count by omega)
    rw [hr, List.set_append_right _ _ (by omega), ha, Nat.sub_self, List.set_cons_zero] at hr'
    obtain ⟨f0, f1, f2⟩ := put_reg lw bs k (i + 1) _ (A ++ [pageA L bs i]) C o' (by rw [hr']; simp) (by simp [ha]; omega) (by simpa using hk)
    refine ⟨f0, f1, ?_⟩
    rw [f2, recQ, List.drop_succ_cons]
    simp [pageA]
/-- What a log holds. -/
structure Hold (D : Dev) (L : Lg) (n : Nat) (rs : List (List UInt8)) : Prop where
  on : On D n
  lwf : L.Wf n
  gen1 : 1 ≤ L.gen
  over : L.over = false
  next : L.next = partsS rs
  small : ∀ b ∈ rs, b.length ≤ 6000
  pages : reg D L.start L.count = recsP L.gen 0 rs ++ List.replicate (L.count - L.next) zeroP
theorem Hold.append {D : Dev} {L : Lg} {n : Nat} {rs : List (List UInt8)} (i : Hold D L n rs) (b : List UInt8) :
    (6000 < b.length ∧ appendD L D b = (3, L, D)) ∨ (b.length ≤ 6000 ∧ L.count < L.next + partsN b.length ∧ appendD L D b = (5, L, D)) ∨
    (b.length ≤ 6000 ∧ L.next + partsN b.length ≤ L.count ∧ (appendD L D b).1 = 0 ∧ (appendD L D b).2.1 = { L with next := L.next + partsN b.length } ∧ Hold (appendD L D b).2.2 { L with next := L.next + partsN b.length } n (rs ++ [b])) := by
  have e : appendD L D b = if 6000 < b.length then (3, L, D) else if L.count < L.next + partsN b.length then (5, L, D)
    else if (putA L b (partsN b.length) 0 D).1 ≠ 0 then ((putA L b (partsN b.length) 0 D).1, overL L (putA L b (partsN b.length) 0 D).1, (putA L b (partsN b.length) 0 D).2)
    else (0, { L with next := L.next + partsN b.length }, (putA L b (partsN b.length) 0 D).2) := by rw [appendD, i.over]; rfl
  rw [e]
  by_cases h1 : 6000 < b.length
  · rw [if_pos h1]; exact .inl ⟨h1, rfl⟩
  rw [if_neg h1]
  by_cases h2 : L.count < L.next + partsN b.length
  · rw [if_pos h2]; exact .inr (.inl ⟨by omega, h2, rfl⟩)
  rw [if_neg h2]
  obtain ⟨f0, f1, f2⟩ := put_reg i.lwf b (partsN b.length) 0 D _ _ i.on i.pages (by rw [recsP_length, i.next, Nat.add_zero]) (by rw [List.length_replicate]; omega)
  rw [if_neg (by simpa using f0)]
  refine .inr (.inr ⟨by omega, by omega, rfl, rfl, f1, ⟨by dsimp only; omega, i.lwf.room, i.lwf.max, i.lwf.gen⟩, i.gen1, i.over, ?_, ?_, ?_⟩)
  · dsimp only
    rw [partsS_snoc, i.next]
  · intro x hx
    rcases List.mem_append.1 hx with h | h
    · exact i.small x h
    · rw [List.mem_singleton.1 h]; omega
  · dsimp only
    rw [f2, recsP_snoc, List.drop_replicate, List.append_assoc, Nat.zero_add, ← i.next]
    congr 2
    congr 1
    omega
theorem Hold.scan {D : Dev} {L : Lg} {n : Nat} {rs : List (List UInt8)} (i : Hold D L n rs) {least : Nat} (h : least ≤ L.gen) : scanD D L.start L.count least = (rs, L.next) := by
  have h1 := i.lwf.room
  have h2 := i.lwf.max
  have h3 := i.lwf.next
  rw [scanD_reg, i.pages]
  obtain ⟨l', _, _, e⟩ := scan_recs i.lwf.gen i.gen1 (rest := List.replicate (L.count - L.next) zeroP) rs 0 least [] i.small (by rw [← i.next]; omega) h
  rw [e, scan_zero, i.next]
  simp
theorem Hold.scanMore {D : Dev} {L : Lg} {n : Nat} {rs : List (List UInt8)} (i : Hold D L n rs) {least : Nat} (h : L.gen < least) : scanD D L.start L.count least = ([], 0) := by
  have h1 := i.lwf.room
  have h2 := i.lwf.max
  have h3 := i.lwf.next
  have hn := i.next
  have hp := i.pages
  have hs := i.small
  rw [scanD_reg, hp]
  cases rs with
  | nil => rw [recsP, List.nil_append, scan_zero]
  | cons b r =>
    rw [partsS] at hn
    rw [recsP, List.append_assoc, scan_less (hs b (List.mem_cons_self ..)) i.lwf.gen (by omega) h]
theorem hold_new {n start count gen d : Nat} (h : start + count ≤ n) (hn : n ≤ 4096) (hg : gen < 4294967296) (hg1 : 1 ≤ gen) : Hold (newD n) ⟨d, start, count, gen, 0, false⟩ n [] :=
  ⟨on_new hn, ⟨Nat.zero_le _, h, hn, hg⟩, hg1, rfl, rfl, fun x hx => (by cases hx), by rw [reg_new h]; rfl⟩
theorem scan_new {n start count least : Nat} (h : start + count ≤ n) : scanD (newD n) start count least = ([], 0) := by rw [scanD_reg, reg_new h, scan_zero]

/- ### Lists of bytes -/
section
variable {h0 h : Heap} {F : List HP} {b n : Nat} {D : Dev}
theorem few2_ok {p : Option Addr} {l c : Nat} {S : List Pg} (hS : Bls h p l S) (n most : Nat) (hn : n ≤ 200) :
    CallsH Try.prog n_ref02_Few #[.slice p l c, .int .i64 n, .int .i64 most] h fun v h' => (∃ t, v = .bool t ∧ (t = true → S.length ≤ n ∧ ∀ e ∈ S, e.2.length ≤ most)) ∧ h' = h := by
  refine C_ref02_Few p l c n most ?_
  unfold F_ref02_Few
  have hlen := hS.1
  refine ⟨fun i h' => h' = h ∧ ∃ k : Nat, i = k ∧ k ≤ l ∧ ∀ j (hj : j < S.length), j < k → S[j].2.length ≤ most, fun i _ => (l - i).toNat, ⟨rfl, 0, rfl, Nat.zero_le _, fun j _ hj => by omega⟩, ?_⟩
  rintro i h3 ⟨rfl, k, rfl, hk, hall⟩
  have bad : (∃ t, Value.bool false = .bool t ∧ (t = true → S.length ≤ n ∧ ∀ e ∈ S, e.2.length ≤ most)) := ⟨false, rfl, fun ht => by cases ht⟩
  rw [br_decide]
  refine ⟨fun hlt => ?_, fun hge => ⟨⟨_, rfl, fun ht => ?_⟩, by trivial⟩⟩
  · rw [br_decide]
    refine ⟨fun h200 => ⟨by omega, hlt, ?_⟩, fun h200 => ⟨⟨_, rfl, fun ht => ?_⟩, by trivial⟩⟩
    · obtain ⟨a, rfl, hc, hb⟩ := hS.get (i := k) (by omega)
      simp only [deref_some, Int.toNat_natCast, Nat.mul_one]
      refine ⟨_, _, _, hc, ?_⟩
      have hbl := hb.1
      rw [br_decide]
      refine ⟨fun _ => ⟨bad, by trivial⟩, fun hle => ?_⟩
      rw [wrap_i64 (by omega) (by omega)]
      refine ⟨⟨by trivial, k + 1, by omega, by omega, fun j hj hjk => ?_⟩, by omega⟩
      by_cases hjk' : j = k
      · subst hjk'; omega
      · exact hall j hj (by omega)
    · have := of_decide_eq_true ht
      omega
  · have := of_decide_eq_true ht
    refine ⟨by omega, fun e he => ?_⟩
    obtain ⟨j, hj, rfl⟩ := List.mem_iff_getElem.1 he
    exact hall j hj (by omega)
theorem same2_ok {p q : Option Addr} {l m c d : Nat} {S T : List Pg} (hS : Bls h p l S) (hT : Bls h q m T) (hl : l ≤ 70368744177664) (hs : ∀ e ∈ S, e.2.length ≤ 70368744177664) :
    CallsH Try.prog n_ref02_Same #[.slice p l c, .slice q m d] h fun v h' => v = .bool (decide (rL S = rL T)) ∧ h' = h := by
  refine C_ref02_Same p l c q m d ?_
  unfold F_ref02_Same
  have hSl := hS.1
  have hTl := hT.1
  rw [br_bne]
  refine ⟨fun hne => ⟨by rw [decide_eq_false]; intro e; have := congrArg List.length e; simp [rL] at this; omega, by trivial⟩, fun he => ?_⟩
  refine ⟨fun i h' => h' = h ∧ ∃ k : Nat, i = k ∧ k ≤ l ∧ ∀ j (h1 : j < S.length) (h2 : j < T.length), j < k → S[j].2 = T[j].2, fun i _ => (l - i).toNat, ⟨rfl, 0, rfl, Nat.zero_le _, fun j _ _ hj => by omega⟩, ?_⟩
  rintro i h3 ⟨rfl, k, rfl, hk, hall⟩
  rw [br_decide]
  refine ⟨fun hlt => ⟨by omega, hlt, ?_⟩, fun hge => ⟨?_, by trivial⟩⟩
  · obtain ⟨a, rfl, hc, hb⟩ := hS.get (i := k) (by omega)
    obtain ⟨a', rfl, hc', hb'⟩ := hT.get (i := k) (by omega)
    simp only [deref_some, Int.toNat_natCast, Nat.mul_one]
    refine ⟨_, _, _, hc, by omega, by omega, _, _, _, hc', ?_⟩
    refine (same_ok hb hb' (by have := hb.1; have := hs _ (List.getElem_mem (show k < S.length by omega)); omega)).mono fun v h13 ⟨hv, hh⟩ => ?_
    subst hh
    refine ⟨Ext.refl _, _, hv, ?_⟩
    by_cases e : S[k].2 = T[k].2
    · refine br_no (by rw [decide_eq_true e]; rfl) ?_
      rw [wrap_i64 (by omega) (by omega)]
      refine ⟨⟨by trivial, k + 1, by omega, by omega, fun j h1 h2 hj => ?_⟩, by omega⟩
      by_cases hjk : j = k
      · subst hjk; exact e
      · exact hall j h1 h2 (by omega)
    · refine br_yes (by rw [decide_eq_false e]; rfl) ⟨?_, by trivial⟩
      rw [decide_eq_false]
      intro e'
      apply e
      have h1 : (rL S)[k]? = some S[k].2 := by simp [rL, List.getElem?_eq_getElem (show k < S.length by omega)]
      have h2 : (rL T)[k]? = some T[k].2 := by simp [rL, List.getElem?_eq_getElem (show k < T.length by omega)]
      rw [e', h2] at h1
      exact (Option.some.inj h1).symm
  · rw [decide_eq_true]
    apply List.ext_getElem
    · simp [rL]; omega
    · intro j h1 h2
      simp only [rL, List.length_map] at h1 h2
      simp only [rL, List.getElem_map]
      exact hall j h1 h2 (by omega)
theorem ahead_ok {p q : Option Addr} {l m c d : Nat} {S T : List Pg} (hS : Bls h p l S) (hT : Bls h q m T) (hl : l ≤ 70368744177664) (hs : ∀ e ∈ S, e.2.length ≤ 70368744177664) :
    CallsH Try.prog n_ref09_Ahead #[.slice p l c, .slice q m d] h fun v h' => v = .bool (decide (rL S <+: rL T)) ∧ h' = h := by
  refine C_ref09_Ahead p l c q m d ?_
  unfold F_ref09_Ahead
  have hSl := hS.1
  have hTl := hT.1
  rw [br_decide]
  refine ⟨fun hgt => ⟨by rw [decide_eq_false]; intro e; have := e.length_le; simp [rL] at this; omega, by trivial⟩, fun hle => ?_⟩
  refine ⟨fun i h' => h' = h ∧ ∃ k : Nat, i = k ∧ k ≤ l ∧ ∀ j (h1 : j < S.length) (h2 : j < T.length), j < k → S[j].2 = T[j].2, fun i _ => (l - i).toNat, ⟨rfl, 0, rfl, Nat.zero_le _, fun j _ _ hj => by omega⟩, ?_⟩
  rintro i h3 ⟨rfl, k, rfl, hk, hall⟩
  rw [br_decide]
  refine ⟨fun hlt => ⟨by omega, hlt, ?_⟩, fun hge => ⟨?_, by trivial⟩⟩
  · obtain ⟨a, rfl, hc, hb⟩ := hS.get (i := k) (by omega)
    obtain ⟨a', rfl, hc', hb'⟩ := hT.get (i := k) (by omega)
    simp only [deref_some, Int.toNat_natCast, Nat.mul_one]
    refine ⟨_, _, _, hc, by omega, by omega, _, _, _, hc', ?_⟩
    refine (same_ok hb hb' (by have := hb.1; have := hs _ (List.getElem_mem (show k < S.length by omega)); omega)).mono fun v h13 ⟨hv, hh⟩ => ?_
    subst hh
    refine ⟨Ext.refl _, _, hv, ?_⟩
    by_cases e : S[k].2 = T[k].2
    · refine br_no (by rw [decide_eq_true e]; rfl) ?_
      rw [wrap_i64 (by omega) (by omega)]
      refine ⟨⟨by trivial, k + 1, by omega, by omega, fun j h1 h2 hj => ?_⟩, by omega⟩
      by_cases hjk : j = k
      · subst hjk; exact e
      · exact hall j h1 h2 (by omega)
    · refine br_yes (by rw [decide_eq_false e]; rfl) ⟨?_, by trivial⟩
      rw [decide_eq_false]
      rintro ⟨r, e'⟩
      apply e
      have h1 : (rL S ++ r)[k]? = some S[k].2 := by
        rw [List.getElem?_append_left (by simp [rL]; omega)]
        simp [rL, List.getElem?_eq_getElem (show k < S.length by omega)]
      have h2 : (rL T)[k]? = some T[k].2 := by simp [rL, List.getElem?_eq_getElem (show k < T.length by omega)]
      rw [e', h2] at h1
      exact (Option.some.inj h1).symm
  · rw [decide_eq_true]
    rw [List.prefix_iff_eq_take]
    apply List.ext_getElem
    · simp [rL]; omega
    · intro j h1 h2
      simp only [rL, List.length_map] at h1 h2
      simp only [rL, List.getElem_take, List.getElem_map]
      exact hall j h1 (by simp at h2; omega) (by omega)
end
end Go.Proofs.Ytbmhphnidfpclaa
/- Layer 9: a page that is torn is the old one, or the new one, or it is not right (no program in sight). -/
set_option linter.unusedVariables false
set_option maxRecDepth 100000
namespace Go.Proofs.Ytbmhphnidfpclaa
open Go Go.Vc Go.Proofs
/-- A mark's bytes. -/
def mb (g p : Nat) : List UInt8 := [0, 0, 0, UInt8.ofNat g, 0, 0, 0, UInt8.ofNat p]
theorem dg_zero {x i : Nat} (h : x / 256 ^ i % 256 = 0) : dg x i = 0 := by
  apply UInt8.toNat_inj.1
  rw [dg, UInt8.toNat_ofNat']
  exact h
theorem dg_of {x i y : Nat} (h : x / 256 ^ i % 256 = y % 256) : dg x i = UInt8.ofNat y := by
  apply UInt8.toNat_inj.1
  rw [dg, UInt8.toNat_ofNat', UInt8.toNat_ofNat']
  exact h
theorem numB_mark {g p : Nat} (hg : g < 256) (hp : p < 256) : numB (markN g p) 8 = mb g p := by
  have h : numB (markN g p) 8 = [dg (markN g p) 7, dg (markN g p) 6, dg (markN g p) 5, dg (markN g p) 4, dg (markN g p) 3, dg (markN g p) 2, dg (markN g p) 1, dg (markN g p) 0] := rfl
  have e : markN g p = g * 4294967296 + p := rfl
  rw [h, dg_zero (i := 7) (by rw [e, show (256 : Nat) ^ 7 = 72057594037927936 from rfl]; omega), dg_zero (i := 6) (by rw [e, show (256 : Nat) ^ 6 = 281474976710656 from rfl]; omega),
    dg_zero (i := 5) (by rw [e, show (256 : Nat) ^ 5 = 1099511627776 from rfl]; omega), dg_of (i := 4) (y := g) (by rw [e, show (256 : Nat) ^ 4 = 4294967296 from rfl]; omega),
    dg_zero (i := 3) (by rw [e, show (256 : Nat) ^ 3 = 16777216 from rfl]; omega), dg_zero (i := 2) (by rw [e, show (256 : Nat) ^ 2 = 65536 from rfl]; omega),
    dg_zero (i := 1) (by rw [e, show (256 : Nat) ^ 1 = 256 from rfl]; omega), dg_of (i := 0) (y := p) (by rw [e, show (256 : Nat) ^ 0 = 1 from rfl]; omega)]
  rfl
theorem valB_mb {g p : Nat} (hg : g < 256) (hp : p < 256) : valB (mb g p) = markN g p := by
  rw [← numB_mark hg hp, valB_numB, Nat.mod_eq_of_lt]
  unfold markN
  have : (256 : Nat) ^ 8 = 18446744073709551616 := rfl
  omega
theorem mb_mix (a b c d : Nat) : ∀ T, (mb a b).take T ++ (mb c d).drop T = if T < 4 then mb c d else if T < 8 then mb a d else mb a b
  | 0 => rfl | 1 => rfl | 2 => rfl | 3 => rfl | 4 => rfl | 5 => rfl | 6 => rfl | 7 => rfl
  | T + 8 => by
    rw [if_neg (by omega), if_neg (by omega), List.take_of_length_le (by simp [mb]), List.drop_of_length_le (by simp [mb]), List.append_nil]
/-- What stands in a page of a log at position j, whatever was torn: generations of at most G. -/
def Tame (G j : Nat) (p : List UInt8) : Prop := p.length = 128 ∧ ∃ hg hp tg tp, hg ≤ G ∧ tg ≤ G ∧ (hp = 0 ∨ hp = j + 1) ∧ (tp = 0 ∨ tp = j + 1) ∧ p.take 8 = mb hg hp ∧ p.drop 120 = mb tg tp
/-- It is never right. -/
def Bad (p : List UInt8) : Prop := ∀ place least, decW p place least = none
theorem tame_zero (j : Nat) : Tame 0 j zeroP := ⟨rfl, 0, 0, 0, 0, Nat.le_refl _, Nat.le_refl _, .inl rfl, .inl rfl, rfl, rfl⟩
theorem Tame.mono {G G' j : Nat} {p : List UInt8} (t : Tame G j p) (h : G ≤ G') : Tame G' j p := by
  obtain ⟨h1, hg, hp, tg, tp, a, b, c⟩ := t
  exact ⟨h1, hg, hp, tg, tp, by omega, by omega, c⟩
theorem page_head {g p k : Nat} {b : List UInt8} (hg : g < 256) (hp : p < 256) : (pageW g p k b).take 8 = mb g p := by
  unfold pageW
  simp only [List.append_assoc]
  rw [take_num, numB_mark hg hp]
theorem page_tail {g p k : Nat} {b : List UInt8} (hg : g < 256) (hp : p < 256) (hb : b.length ≤ 110) : (pageW g p k b).drop 120 = mb g p := by
  unfold pageW
  rw [List.drop_append, List.drop_of_length_le (by simp [numB_length]; omega), List.nil_append]
  have : 120 - (numB (markN g p) 8 ++ numB k 1 ++ numB b.length 1 ++ b ++ List.replicate (110 - b.length) 0).length = 0 := by simp [numB_length]; omega
  rw [this, List.drop_zero, numB_mark hg hp]
theorem tame_page {g j k : Nat} {b : List UInt8} (hg : g < 256) (hp : j + 1 < 256) (hb : b.length ≤ 110) : Tame g j (pageW g (j + 1) k b) :=
  ⟨pageW_length hb, g, j + 1, g, j + 1, Nat.le_refl _, Nat.le_refl _, .inr rfl, .inr rfl, page_head hg hp, page_tail hg hp hb⟩
theorem bad_of {p : List UInt8} (h : tl9 p ≠ mk9 p) : Bad p := fun place least => by
  rw [decW, if_neg (fun hh => h hh.2.2.1)]
theorem mix_head {p q : List UInt8} (hp : p.length = 128) (hq : q.length = 128) {T : Nat} (hT : T ≤ 128) : (q.take T ++ p.drop T).take 8 = (q.take 8).take T ++ (p.take 8).drop T := by
  apply List.ext_getElem?
  intro i
  simp only [List.getElem?_take, List.getElem?_append, List.getElem?_drop, List.length_take, hq, hp]
  by_cases h8 : i < 8
  · rw [if_pos h8]
    by_cases hi : i < T
    · rw [if_pos (by omega), if_pos hi, if_pos (by omega), if_pos hi, if_pos h8]
    · rw [if_neg (by omega), if_neg (by omega)]
      have : min (min 8 128) T = min 8 T := by omega
      rw [if_pos (by omega)]
      congr 1
      omega
  · rw [if_neg h8]
    by_cases h : i < min T (min 8 128)
    · omega
    · rw [if_neg (by omega), if_neg (by omega)]
theorem mix_tail {p q : List UInt8} (hp : p.length = 128) (hq : q.length = 128) {T : Nat} (hT : T ≤ 128) : (q.take T ++ p.drop T).drop 120 = (q.drop 120).take (T - 120) ++ (p.drop 120).drop (T - 120) := by
  by_cases h : T ≤ 120
  · have : T - 120 = 0 := by omega
    rw [this, List.take_zero, List.nil_append, List.drop_zero, List.drop_append, List.drop_of_length_le (by rw [List.length_take]; omega), List.nil_append, List.length_take, List.drop_drop]
    congr 1
    omega
  · rw [List.drop_append_of_le_length (by rw [List.length_take]; omega), List.drop_take, List.drop_drop]
    congr 2
    omega
theorem mixed_eq (p q : List UInt8) (t : Int) : ∃ T, T ≤ 128 ∧ mixed p q t = q.take T ++ p.drop T := ⟨_, by omega, rfl⟩
theorem split128 {p : List UInt8} : p = p.take 8 ++ ((p.drop 8).take 112 ++ p.drop 120) := by
  have h1 : p.drop 120 = (p.drop 8).drop 112 := by rw [List.drop_drop]
  rw [h1, List.take_append_drop, List.take_append_drop]
theorem torn_page {G g j k : Nat} {b p : List UInt8} {t : Int} (tm : Tame G j p) (hG : G < g) (hg : g < 256) (hj : j + 1 < 256) (hb : b.length ≤ 110) :
    Tame g j (mixed p (pageW g (j + 1) k b) t) ∧ (mixed p (pageW g (j + 1) k b) t = pageW g (j + 1) k b ∨ mixed p (pageW g (j + 1) k b) t = p ∨ Bad (mixed p (pageW g (j + 1) k b) t)) := by
  have hq := pageW_length (g := g) (p := j + 1) (k := k) hb
  have qh := page_head (g := g) (p := j + 1) (k := k) (b := b) hg hj
  have qt := page_tail (g := g) (p := j + 1) (k := k) hg hj hb
  obtain ⟨hp, hg', hp', tg', tp', a1, a2, a3, a4, ph, pt⟩ := tm
  have hm := mixed_length (t := t) hp hq
  obtain ⟨T, hT, e⟩ := mixed_eq p (pageW g (j + 1) k b) t
  rw [e] at hm ⊢
  generalize pageW g (j + 1) k b = q at *
  have mh := mix_head hp hq hT
  have mt := mix_tail hp hq hT
  rw [qh, ph, mb_mix] at mh
  rw [qt, pt, mb_mix] at mt
  have hpp : hp' < 256 := by omega
  have htp : tp' < 256 := by omega
  by_cases h3 : T < 4
  · rw [if_pos h3] at mh
    rw [if_pos (by omega)] at mt
    refine ⟨⟨hm, hg', hp', tg', tp', by omega, by omega, a3, a4, mh, mt⟩, .inr (.inl ?_)⟩
    have : q.take T = p.take T := by
      have h1 : q.take T = (q.take 8).take T := by rw [List.take_take]; congr 1; omega
      have h2 : p.take T = (p.take 8).take T := by rw [List.take_take]; congr 1; omega
      rw [h1, h2, qh, ph]
      have : T = 0 ∨ T = 1 ∨ T = 2 ∨ T = 3 := by omega
      rcases this with h | h | h | h <;> subst h <;> rfl
    rw [this, List.take_append_drop]
  rw [if_neg h3] at mh
  have bad : ∀ {x y u v : Nat}, x < 256 → y < 256 → u < 256 → v < 256 → (q.take T ++ p.drop T).take 8 = mb x y → (q.take T ++ p.drop T).drop 120 = mb u v → (x ≠ u ∨ y ≠ v) → Bad (q.take T ++ p.drop T) := by
    intro x y u v hx hy hu hv e1 e2 hne
    apply bad_of
    unfold tl9 mk9
    rw [e1, e2, valB_mb hx hy, valB_mb hu hv]
    unfold markN
    omega
  by_cases h7 : T < 8
  · rw [if_pos h7] at mh
    rw [if_pos (by omega)] at mt
    exact ⟨⟨hm, g, hp', tg', tp', Nat.le_refl _, by omega, a3, a4, mh, mt⟩, .inr (.inr (bad hg hpp (by omega) htp mh mt (.inl (by omega))))⟩
  rw [if_neg h7] at mh
  by_cases h123 : T - 120 < 4
  · rw [if_pos h123] at mt
    exact ⟨⟨hm, g, j + 1, tg', tp', Nat.le_refl _, by omega, .inr rfl, a4, mh, mt⟩, .inr (.inr (bad hg hj (by omega) htp mh mt (.inl (by omega))))⟩
  rw [if_neg h123] at mt
  by_cases h127 : T - 120 < 8
  · rw [if_pos h127] at mt
    refine ⟨⟨hm, g, j + 1, g, tp', Nat.le_refl _, Nat.le_refl _, .inr rfl, a4, mh, mt⟩, ?_⟩
    rcases a4 with h | h
    · exact .inr (.inr (bad hg hj hg htp mh mt (.inr (by omega))))
    · subst h
      refine .inl ?_
      have h1 : p.drop T = q.drop T := by
        have e1 : p.drop T = (p.drop 120).drop (T - 120) := by rw [List.drop_drop]; congr 1; omega
        have e2 : q.drop T = (q.drop 120).drop (T - 120) := by rw [List.drop_drop]; congr 1; omega
        rw [e1, e2, pt, qt]
        have : T - 120 = 4 ∨ T - 120 = 5 ∨ T - 120 = 6 ∨ T - 120 = 7 := by omega
        rcases this with h | h | h | h <;> rw [h] <;> rfl
      rw [h1, List.take_append_drop]
  · rw [if_neg h127] at mt
    have : T = 128 := by omega
    subst this
    refine ⟨⟨hm, g, j + 1, g, j + 1, Nat.le_refl _, Nat.le_refl _, .inr rfl, .inr rfl, mh, mt⟩, .inl ?_⟩
    rw [List.take_of_length_le (by omega), List.drop_of_length_le (by omega), List.append_nil]
theorem Tame.gen {G j : Nat} {p : List UInt8} (tm : Tame G j p) (hG : G < 256) (hj : j + 1 < 256) {place least g k : Nat} {b : List UInt8} (h : decW p place least = some (g, k, b)) : g ≤ G := by
  obtain ⟨hp, hg', hp', tg', tp', a1, a2, a3, a4, ph, pt⟩ := tm
  unfold decW at h
  split at h
  · cases h
    unfold mk9
    rw [ph, valB_mb (by omega) (by omega)]
    unfold markN
    omega
  · cases h
theorem decW_least {p : List UInt8} {place least g k : Nat} {b : List UInt8} (h : decW p place least = some (g, k, b)) : least ≤ g := by
  unfold decW at h
  split at h
  · rename_i hh
    cases h
    exact hh.2.2.2.2.2.2
  · cases h
theorem page_gen {g q k : Nat} {b : List UInt8} (hg : g < 4294967296) (hq : q < 4294967296) {place least g' k' : Nat} {b' : List UInt8} (h : decW (pageW g q k b) place least = some (g', k', b')) : g' = g := by
  have e1 : mk9 (pageW g q k b) = markN g q := by
    unfold mk9 pageW
    simp only [List.append_assoc]
    rw [take_num, valB_numB, Nat.mod_eq_of_lt]
    unfold markN
    have : (256 : Nat) ^ 8 = 18446744073709551616 := rfl
    omega
  unfold decW at h
  split at h
  · cases h
    rw [e1]
    unfold markN
    omega
  · cases h
end Go.Proofs.Ytbmhphnidfpclaa
/- Layer 9: the records of a log behind a crash (no program in sight). -/
set_option linter.unusedVariables false
set_option maxRecDepth 100000
namespace Go.Proofs.Ytbmhphnidfpclaa
open Go Go.Vc Go.Proofs
abbrev Page := List UInt8
/-- Pages W were written over B, of which the first f lasted; R is what is left. -/
def MixL : Nat → List Page → List Page → List Page → Prop
  | _, [], B, R => R = B
  | f, w :: W, b :: B, r :: R => (r = w ∨ (f = 0 ∧ (r = b ∨ Bad r))) ∧ MixL (f - 1) W B R
  | _, _, _, _ => False
/-- Right pages have lesser generations. -/
def OldL (g : Nat) (B : List Page) : Prop := ∀ p ∈ B, ∀ place least g' k b, decW p place least = some (g', k, b) → g' < g
def NewL (g : Nat) (W : List Page) : Prop := ∀ p ∈ W, ∀ place least g' k b, decW p place least = some (g', k, b) → g' = g
theorem scan_ext : ∀ (ps : List Page) (at_ least bg : Nat) (rc : List UInt8) (recs : List (List UInt8)) (nx : Nat), ∃ m, (scanL ps at_ least bg rc recs nx).1 = recs ++ m
  | [], _, _, _, _, recs, _ => ⟨[], by simp [scanL]⟩
  | p :: ps, at_, least, bg, rc, recs, nx => by
    rw [scanL_cons]
    split
    · exact ⟨[], by simp⟩
    · split
      · exact ⟨[], by simp⟩
      · split
        · rename_i g k b _ _ _
          obtain ⟨m, h⟩ := scan_ext ps (at_ + 1) g 0 [] (recs ++ [rc ++ b]) (at_ + 1)
          exact ⟨(rc ++ b) :: m, by rw [h]; simp⟩
        · rename_i g k b _ _ _
          exact scan_ext ps (at_ + 1) g g (rc ++ b) recs nx
theorem scan_more {ps : List Page} {at_ least bg : Nat} {rc x : List UInt8} {recs : List (List UInt8)} {nx nx' : Nat} : scanL ps at_ least bg rc (recs ++ [x]) nx ≠ (recs, nx') := fun h => by
  obtain ⟨m, e⟩ := scan_ext ps at_ least bg rc (recs ++ [x]) nx
  rw [h] at e
  have := congrArg List.length e
  simp at this
theorem scan_small : ∀ (ps : List Page) (at_ least bg : Nat) (rc : List UInt8) (recs : List (List UInt8)) (nx : Nat), (∀ b ∈ recs, b.length ≤ 6000) → ∀ b ∈ (scanL ps at_ least bg rc recs nx).1, b.length ≤ 6000
  | [], _, _, _, _, recs, _, h => h
  | p :: ps, at_, least, bg, rc, recs, nx, h => by
    rw [scanL_cons]
    split
    · exact h
    · split
      · exact h
      · rename_i g k b _ hc
        split
        · refine scan_small ps (at_ + 1) g 0 [] (recs ++ [rc ++ b]) (at_ + 1) fun x hx => ?_
          rcases List.mem_append.1 hx with hx | hx
          · exact h x hx
          · rw [List.mem_singleton.1 hx]
            have h3 := fun hh => hc (.inr (.inr hh))
            omega
        · exact scan_small ps (at_ + 1) g g (rc ++ b) recs nx h
/-- In the middle of an elder record: nothing new is read. -/
theorem scan_mid {g : Nat} : ∀ (W B R : List Page) (f at_ l bg : Nat) (rc : List UInt8) (x : List (List UInt8)) (s : Nat), MixL f W B R → NewL g W → OldL g B → bg ≠ 0 → bg < g → 1 ≤ l →
    scanL B at_ l bg rc x s = (x, s) → scanL R at_ l bg rc x s = (x, s)
  | [], B, R, f, at_, l, bg, rc, x, s, hm, _, _, _, _, _, h => by rw [show R = B from hm]; exact h
  | w :: W, b :: B, r :: R, f, at_, l, bg, rc, x, s, hm, hw, ho, hb0, hbg, hl, h => by
    obtain ⟨h1, hm⟩ := hm
    rw [scanL_cons] at h ⊢
    rcases h1 with rfl | ⟨rfl, rfl | hbad⟩
    · cases hd : decW r (at_ + 1) l with
      | none => rfl
      | some y =>
        obtain ⟨g', k, part⟩ := y
        have := hw r (List.mem_cons_self ..) _ _ _ _ _ hd
        dsimp only
        rw [if_pos (.inr (.inl ⟨hb0, by omega⟩))]
    · cases hd : decW r (at_ + 1) l with
      | none => rfl
      | some y =>
        obtain ⟨g', k, part⟩ := y
        have hg := ho r (List.mem_cons_self ..) _ _ _ _ _ hd
        have hle := decW_least hd
        rw [hd] at h
        dsimp only at h ⊢
        split
        · rfl
        · rename_i hc
          rw [if_neg hc] at h
          split
          · rename_i hk
            rw [if_pos hk] at h
            exact absurd h scan_more
          · rename_i hk
            rw [if_neg hk] at h
            exact scan_mid W B R 0 (at_ + 1) g' g' (rc ++ part) x s hm (fun p hp => hw p (List.mem_cons_of_mem _ hp)) (fun p hp => ho p (List.mem_cons_of_mem _ hp)) (by omega) hg (by omega) h
    · rw [hbad]
  | _ :: _, [], [], _, _, _, _, _, _, _, hm, _, _, _, _, _, _ => hm.elim
  | _ :: _, [], _ :: _, _, _, _, _, _, _, _, hm, _, _, _, _, _, _ => hm.elim
  | _ :: _, _ :: _, [], _, _, _, _, _, _, _, hm, _, _, _, _, _, _ => hm.elim
/-- Behind a new page no elder one is right. -/
theorem scan_stop {g at_ bg nx : Nat} {rc : List UInt8} {recs : List (List UInt8)} {b : Page} {B R : List Page} (ho : OldL g (b :: B)) {r : Page} (h : r = b ∨ Bad r) : scanL (r :: R) at_ g bg rc recs nx = (recs, nx) := by
  rw [scanL_cons]
  cases hd : decW r (at_ + 1) g with
  | none => rfl
  | some y =>
    obtain ⟨g', k, part⟩ := y
    rcases h with rfl | h
    · have h1 := ho r (List.mem_cons_self ..) _ _ _ _ _ hd
      have h2 := decW_least hd
      omega
    · rw [h] at hd; cases hd
theorem OldL.drop {g : Nat} {B : List Page} (h : OldL g B) (n : Nat) : OldL g (B.drop n) := fun p hp => h p (List.mem_of_mem_drop hp)
theorem scan_none {g at_ bg nx : Nat} {rc : List UInt8} {recs : List (List UInt8)} {B : List Page} (ho : OldL g B) : scanL B at_ g bg rc recs nx = (recs, nx) := by
  cases B with
  | nil => rfl
  | cons b B => exact scan_stop ho (.inl rfl)
theorem scan_page {g at_ : Nat} {b : List UInt8} (hb : b.length ≤ 6000) (hg : g < 4294967296) (hg1 : 1 ≤ g) (ha : at_ + partsN b.length < 1000000000) {i lst : Nat} (R : List Page) (recs : List (List UInt8)) (nx : Nat) (hi : i < partsN b.length) (hl : lst ≤ g) :
    scanL (pageW g (at_ + i + 1) (kindN i (partsN b.length)) (partB b i) :: R) (at_ + i) lst (if i = 0 then 0 else g) (b.take (110 * i)) recs nx =
      if i + 1 = partsN b.length then scanL R (at_ + partsN b.length) g 0 [] (recs ++ [b]) (at_ + partsN b.length) else scanL R (at_ + (i + 1)) g g (b.take (110 * (i + 1))) recs nx := by
  have hkl := kindN_last i (partsN b.length)
  have hkf := kindN_first i (partsN b.length)
  have hdec : decW (pageW g (at_ + i + 1) (kindN i (partsN b.length)) (partB b i)) (at_ + i + 1) lst = some (g, kindN i (partsN b.length), partB b i) := by
    rw [decW_page (partB_len b i) (by omega) hg (kindN_le _ _) ?_, if_pos hl]
    by_cases he : i + 1 = partsN b.length
    · exact .inr (hkl.2 he)
    · exact .inl (part_full (by omega))
  have hlen : (b.take (110 * i) ++ partB b i).length ≤ 6000 := by rw [take_part, List.length_take]; omega
  rw [scanL_cons, hdec]
  dsimp only
  rw [if_neg, take_part]
  · by_cases he : i + 1 = partsN b.length
    · rw [if_pos (hkl.2 he), if_pos he, List.take_of_length_le (by unfold partsN at he; omega)]
      rw [show at_ + i + 1 = at_ + partsN b.length by omega]
    · rw [if_neg (fun hh => he (hkl.1 hh)), if_neg he]
      rw [show at_ + i + 1 = at_ + (i + 1) by omega]
  · rintro (h | h | h)
    · apply h
      rw [hkf]
      by_cases h0 : i = 0
      · simp [h0]
      · simp [h0]; omega
    · split at h <;> omega
    · omega
section
variable {g at_ : Nat} {b : List UInt8}
/-- A record's pages, from a part i > 0 on: either the record is not found, or all of it is. -/
theorem scan_full (hb : b.length ≤ 6000) (hg : g < 4294967296) (hg1 : 1 ≤ g) (ha : at_ + partsN b.length < 1000000000) : ∀ (k i f : Nat) (W B R : List Page) (recs : List (List UInt8)) (nx : Nat), 1 ≤ i → i + k = partsN b.length → 1 ≤ k → OldL g B →
    MixL f (recQ g at_ b (partsN b.length) k i ++ W) B R →
    (scanL R (at_ + i) g g (b.take (110 * i)) recs nx = (recs, nx) ∧ f < k) ∨
    (∃ B' R', OldL g B' ∧ MixL (f - k) W B' R' ∧ scanL R (at_ + i) g g (b.take (110 * i)) recs nx = scanL R' (at_ + partsN b.length) g 0 [] (recs ++ [b]) (at_ + partsN b.length))
  | 0, i, f, W, B, R, recs, nx, hi, hik, hk, ho, hm => by omega
  | k + 1, i, f, W, b' :: B, r :: R, recs, nx, hi, hik, hk, ho, hm => by
    rw [recQ, List.cons_append] at hm
    obtain ⟨h1, hm⟩ := hm
    rcases h1 with rfl | ⟨rfl, h⟩
    · have hp := scan_page hb hg hg1 ha (i := i) (lst := g) R recs nx (by omega) (Nat.le_refl _)
      rw [if_neg (by omega)] at hp
      rw [hp]
      have ho' : OldL g B := fun p hp => ho p (List.mem_cons_of_mem _ hp)
      by_cases he : i + 1 = partsN b.length
      · rw [if_pos he]
        obtain rfl : k = 0 := by omega
        exact .inr ⟨B, R, ho', hm, rfl⟩
      · rw [if_neg he]
        rcases scan_full hb hg hg1 ha k (i + 1) (f - 1) W B R recs nx (by omega) (by omega) (by omega) ho' hm with ⟨h1, h2⟩ | ⟨B', R', h1, h2, h3⟩
        · exact .inl ⟨h1, by omega⟩
        · refine .inr ⟨B', R', h1, ?_, h3⟩
          rw [show f - (k + 1) = f - 1 - k by omega]
          exact h2
    · exact .inl ⟨scan_stop ho h, by omega⟩
  | _ + 1, _, _, _, [], [], _, _, _, _, _, _, hm => hm.elim
  | _ + 1, _, _, _, [], _ :: _, _, _, _, _, _, _, hm => hm.elim
  | _ + 1, _, _, _, _ :: _, [], _, _, _, _, _, _, hm => hm.elim
/-- Part of a record's pages: it is not found. -/
theorem scan_part (hb : b.length ≤ 6000) (hg : g < 4294967296) (hg1 : 1 ≤ g) (ha : at_ + partsN b.length < 1000000000) : ∀ (k i f : Nat) (B R : List Page) (recs : List (List UInt8)) (nx : Nat), 1 ≤ i → i + k < partsN b.length → OldL g B →
    MixL f (recQ g at_ b (partsN b.length) k i) B R → scanL R (at_ + i) g g (b.take (110 * i)) recs nx = (recs, nx)
  | 0, i, f, B, R, recs, nx, hi, hik, ho, hm => by
    rw [show R = B from hm]
    exact scan_none ho
  | k + 1, i, f, b' :: B, r :: R, recs, nx, hi, hik, ho, hm => by
    obtain ⟨h1, hm⟩ := hm
    rcases h1 with rfl | ⟨rfl, h⟩
    · have hp := scan_page hb hg hg1 ha (i := i) (lst := g) R recs nx (by omega) (Nat.le_refl _)
      rw [if_neg (by omega), if_neg (by omega)] at hp
      rw [hp]
      exact scan_part hb hg hg1 ha k (i + 1) (f - 1) B R recs nx (by omega) (by omega) (fun p hp => ho p (List.mem_cons_of_mem _ hp)) hm
    · exact scan_stop ho h
  | _ + 1, _, _, [], [], _, _, _, _, _, hm => hm.elim
  | _ + 1, _, _, [], _ :: _, _, _, _, _, _, hm => hm.elim
  | _ + 1, _, _, _ :: _, [], _, _, _, _, _, hm => hm.elim
theorem newL_page {q k : Nat} {c : List UInt8} (hg : g < 4294967296) (hq : q < 4294967296) {p : Page} (h : p = pageW g q k c) : ∀ place least g' k' b', decW p place least = some (g', k', b') → g' = g := fun _ _ _ _ _ hd => by
  subst h; exact page_gen hg hq hd
theorem newL_recQ (hg : g < 4294967296) {N : Nat} : ∀ (k i : Nat), at_ + i + k < 4294967296 → NewL g (recQ g at_ b N k i)
  | 0, i, _ => fun p hp => (by cases hp)
  | k + 1, i, h => fun p hp => by
    rcases List.mem_cons.1 hp with h1 | h1
    · exact newL_page hg (by omega) h1
    · exact newL_recQ hg k (i + 1) (by omega) p h1
theorem newL_recsP (hg : g < 4294967296) : ∀ (rs : List (List UInt8)) (at_ : Nat), at_ + partsS rs < 4294967296 → NewL g (recsP g at_ rs)
  | [], _, _ => fun p hp => (by cases hp)
  | b :: rs, at_, h => fun p hp => by
    rw [partsS] at h
    rcases List.mem_append.1 hp with h1 | h1
    · exact newL_recQ hg _ _ (by omega) p h1
    · exact newL_recsP hg rs _ (by omega) p h1
/-- The first page is the elder one, or torn: nothing is read, for nothing was read ahead. -/
theorem scan_first {b' r : Page} {W B R : List Page} {f l nx : Nat} {recs : List (List UInt8)} (h : r = b' ∨ Bad r) (hm : MixL f W B R) (hw : NewL g W) (ho : OldL g (b' :: B)) (hl : 1 ≤ l) (hn : scanL (b' :: B) at_ l 0 [] recs nx = (recs, nx)) :
    scanL (r :: R) at_ l 0 [] recs nx = (recs, nx) := by
  rw [scanL_cons] at hn ⊢
  rcases h with rfl | hbad
  · cases hd : decW r (at_ + 1) l with
    | none => rfl
    | some y =>
      obtain ⟨g', k, part⟩ := y
      have hg := ho r (List.mem_cons_self ..) _ _ _ _ _ hd
      have hle := decW_least hd
      rw [hd] at hn
      dsimp only at hn ⊢
      split
      · rfl
      · rename_i hc
        rw [if_neg hc] at hn
        split
        · rename_i hk
          rw [if_pos hk] at hn
          exact absurd hn scan_more
        · rename_i hk
          rw [if_neg hk] at hn
          exact scan_mid W B R f (at_ + 1) g' g' ([] ++ part) recs nx hm hw (fun p hp => ho p (List.mem_cons_of_mem _ hp)) (by omega) hg (by omega) hn
  · rw [hbad]
/-- A record, appended behind what is found. -/
theorem scan_whole (hb : b.length ≤ 6000) (hg : g < 4294967296) (hg1 : 1 ≤ g) (ha : at_ + partsN b.length < 1000000000) {f l nx : Nat} {W B R : List Page} {recs : List (List UInt8)} (hl : 1 ≤ l) (hlg : l ≤ g) (ho : OldL g B) (hw : NewL g W)
    (hm : MixL f (recP g at_ b ++ W) B R) (hn : scanL B at_ l 0 [] recs nx = (recs, nx)) :
    (scanL R at_ l 0 [] recs nx = (recs, nx) ∧ f < partsN b.length) ∨
    (∃ B' R', OldL g B' ∧ MixL (f - partsN b.length) W B' R' ∧ scanL R at_ l 0 [] recs nx = scanL R' (at_ + partsN b.length) g 0 [] (recs ++ [b]) (at_ + partsN b.length)) := by
  have hp1 := parts_pos b.length
  obtain ⟨N, hN⟩ : ∃ N, partsN b.length = N + 1 := ⟨partsN b.length - 1, by omega⟩
  have hrec : recP g at_ b = pageW g (at_ + 0 + 1) (kindN 0 (partsN b.length)) (partB b 0) :: recQ g at_ b (partsN b.length) N 1 := by
    unfold recP
    conv => lhs; arg 5; rw [hN]
    rfl
  rw [hrec, List.cons_append] at hm
  match B, R, hm, ho, hn with
  | b' :: B, r :: R, hm, ho, hn =>
    obtain ⟨h1, hm⟩ := hm
    rcases h1 with rfl | ⟨rfl, h⟩
    · have hp := scan_page hb hg hg1 ha (i := 0) (lst := l) R recs nx (by omega) hlg
      rw [if_pos rfl] at hp
      simp only [Nat.mul_zero, List.take_zero, Nat.add_zero] at hp
      simp only [Nat.add_zero]
      rw [hp]
      have ho' : OldL g B := fun p hp => ho p (List.mem_cons_of_mem _ hp)
      by_cases he : 0 + 1 = partsN b.length
      · rw [if_pos he]
        obtain rfl : N = 0 := by omega
        exact .inr ⟨B, R, ho', by rw [← he]; exact hm, rfl⟩
      · rw [if_neg he]
        rcases scan_full hb hg hg1 ha N 1 (f - 1) W B R recs nx (Nat.le_refl _) (by omega) (by omega) ho' hm with ⟨h1, h2⟩ | ⟨B', R', h1, h2, h3⟩
        · exact .inl ⟨h1, by omega⟩
        · refine .inr ⟨B', R', h1, ?_, h3⟩
          rw [show f - partsN b.length = f - 1 - N by omega]
          exact h2
    · refine .inl ⟨scan_first h hm ?_ ho hl hn, by omega⟩
      intro p hp
      rcases List.mem_append.1 hp with hp | hp
      · exact newL_recQ hg _ _ (by omega) p hp
      · exact hw p hp
  | [], [], hm, _, _ => exact hm.elim
  | [], _ :: _, hm, _, _ => exact hm.elim
  | _ :: _, [], hm, _, _ => exact hm.elim
/-- Part of a record, appended behind what is found. -/
theorem scan_some (hb : b.length ≤ 6000) (hg : g < 4294967296) (hg1 : 1 ≤ g) (ha : at_ + partsN b.length < 1000000000) {f l nx k : Nat} (hk : k < partsN b.length) {B R : List Page} {recs : List (List UInt8)} (hl : 1 ≤ l) (hlg : l ≤ g) (ho : OldL g B)
    (hm : MixL f (recQ g at_ b (partsN b.length) k 0) B R) (hn : scanL B at_ l 0 [] recs nx = (recs, nx)) : scanL R at_ l 0 [] recs nx = (recs, nx) := by
  cases k with
  | zero => rw [show R = B from hm]; exact hn
  | succ k =>
    match B, R, hm, ho, hn with
    | b' :: B, r :: R, hm, ho, hn =>
      obtain ⟨h1, hm⟩ := hm
      rcases h1 with rfl | ⟨rfl, h⟩
      · have hp := scan_page hb hg hg1 ha (i := 0) (lst := l) R recs nx (by omega) hlg
        rw [if_pos rfl] at hp
        simp only [Nat.mul_zero, List.take_zero, Nat.add_zero] at hp
        simp only [Nat.add_zero]
        rw [hp, if_neg (by omega)]
        exact scan_part hb hg hg1 ha k 1 (f - 1) B R recs nx (Nat.le_refl _) (by omega) (fun p hp => ho p (List.mem_cons_of_mem _ hp)) hm
      · exact scan_first h hm (newL_recQ hg _ _ (by omega)) ho hl hn
    | [], [], hm, _, _ => exact hm.elim
    | [], _ :: _, hm, _, _ => exact hm.elim
    | _ :: _, [], hm, _, _ => exact hm.elim
/-- What was written last of all: nothing, or some pages of a record. -/
def Rest9 (g at_ : Nat) (part : List Page) : Prop := ∃ b k, b.length ≤ 6000 ∧ k < partsN b.length ∧ part = recQ g at_ b (partsN b.length) k 0
theorem rest_nil (g at_ : Nat) : Rest9 g at_ [] := ⟨[], 0, by simp, by simp [partsN], rfl⟩
theorem scan_crash (hg : g < 4294967296) (hg1 : 1 ≤ g) : ∀ (rs : List (List UInt8)) (part : List Page) (at_ f l : Nat) (B R : List Page) (recs : List (List UInt8)), (∀ b ∈ rs, b.length ≤ 6000) → at_ + partsS rs < 100000000 → Rest9 g (at_ + partsS rs) part → 1 ≤ l → l ≤ g → OldL g B →
    MixL f (recsP g at_ rs ++ part) B R → scanL B at_ l 0 [] recs at_ = (recs, at_) →
    ∃ m, m ≤ rs.length ∧ scanL R at_ l 0 [] recs at_ = (recs ++ rs.take m, at_ + partsS (rs.take m)) ∧ ∀ q, q ≤ rs.length → partsS (rs.take q) ≤ f → q ≤ m
  | [], part, at_, f, l, B, R, recs, hs, ha, ⟨b, k, hb, hk, hp⟩, hl, hlg, ho, hm, hn => by
    refine ⟨0, Nat.le_refl _, ?_, fun q hq _ => by simpa using hq⟩
    subst hp
    have hbn : partsN b.length ≤ 55 := by unfold partsN; omega
    simp only [partsS, Nat.add_zero] at hm ha
    have := scan_some (at_ := at_) hb hg hg1 (by omega) hk hl hlg ho hm hn
    simpa [partsS] using this
  | b :: rs, part, at_, f, l, B, R, recs, hs, ha, hr, hl, hlg, ho, hm, hn => by
    rw [partsS] at ha hr
    rw [recsP, List.append_assoc] at hm
    have hb := hs b (List.mem_cons_self ..)
    have hw : NewL g (recsP g (at_ + partsN b.length) rs ++ part) := by
      intro p hp
      rcases List.mem_append.1 hp with h | h
      · exact newL_recsP hg rs _ (by omega) p h
      · obtain ⟨b2, k, hb2, hk, rfl⟩ := hr
        have : partsN b2.length ≤ 55 := by unfold partsN; omega
        exact newL_recQ hg _ _ (by omega) p h
    rcases scan_whole hb hg hg1 (by omega) hl hlg ho hw hm hn with ⟨h1, h2⟩ | ⟨B', R', h1, h2, h3⟩
    · refine ⟨0, Nat.zero_le _, by simpa [partsS] using h1, fun q hq hp => ?_⟩
      cases q with
      | zero => exact Nat.le_refl _
      | succ q =>
        rw [List.take_succ_cons, partsS] at hp
        omega
    · obtain ⟨m, e1, e2, e3⟩ := scan_crash hg hg1 rs part (at_ + partsN b.length) (f - partsN b.length) g B' R' (recs ++ [b]) (fun x hx => hs x (List.mem_cons_of_mem _ hx)) (by omega) (by rw [Nat.add_assoc]; exact hr) hg1 (Nat.le_refl _) h1 h2 (scan_none h1)
      refine ⟨m + 1, by simp; omega, ?_, fun q hq hp => ?_⟩
      · rw [h3, e2, List.take_succ_cons, partsS, Nat.add_assoc]
        simp
      · cases q with
        | zero => omega
        | succ q =>
          rw [List.take_succ_cons, partsS] at hp
          have := e3 q (by simpa using hq) (by omega)
          omega
end
end Go.Proofs.Ytbmhphnidfpclaa
/- Layer 9: a log's pages on a device that may lose its power (no program in sight). -/
set_option linter.unusedVariables false
set_option maxRecDepth 100000
namespace Go.Proofs.Ytbmhphnidfpclaa
open Go Go.Vc Go.Proofs
/-- What waits for a page. -/
def qAt (Q : List (Nat × List UInt8)) (i : Nat) : List Page := (Q.filter fun w => w.1 == i).map (·.2)
theorem qAt_snoc (Q : List (Nat × List UInt8)) (i j : Nat) (x : Page) : qAt (Q ++ [(i, x)]) j = qAt Q j ++ (if i = j then [x] else []) := by
  unfold qAt
  rw [List.filter_append, List.map_append]
  congr 1
  by_cases h : i = j <;> simp [h]
theorem qAt_cons (w : Nat × List UInt8) (Q : List (Nat × List UInt8)) (j : Nat) : qAt (w :: Q) j = (if w.1 = j then [w.2] else []) ++ qAt Q j := by
  unfold qAt
  by_cases h : w.1 = j <;> simp [h]
theorem getD_set_ne {L : List Page} {i j : Nat} {x : Page} (h : i ≠ j) : (L.set i x).getD j [] = L.getD j [] := by
  rw [List.getD_eq_getElem?_getD, List.getElem?_set_ne h, ← List.getD_eq_getElem?_getD]
theorem getD_set_eq {L : List Page} {i : Nat} {x : Page} (h : i < L.length) : (L.set i x).getD i [] = x := by
  rw [List.getD_eq_getElem?_getD, List.getElem?_set_self h]; rfl
theorem seen_free {i : Nat} : ∀ (Q : List (Nat × List UInt8)) (L : List Page), qAt Q i = [] → (applyQ L Q).getD i [] = L.getD i []
  | [], L, _ => rfl
  | w :: Q, L, h => by
    rw [qAt_cons] at h
    have h2 := (List.append_eq_nil_iff.1 h)
    have hw : w.1 ≠ i := fun e => by rw [if_pos e] at h2; exact absurd h2.1 (by simp)
    have : applyQ L (w :: Q) = applyQ (L.set w.1 w.2) Q := rfl
    rw [this, seen_free Q _ h2.2, getD_set_ne hw]
theorem seen_wait {i : Nat} {x : Page} : ∀ (Q : List (Nat × List UInt8)) (L : List Page), i < L.length → qAt Q i = [x] → (applyQ L Q).getD i [] = x
  | [], L, _, h => by cases h
  | w :: Q, L, hi, h => by
    rw [qAt_cons] at h
    have e : applyQ L (w :: Q) = applyQ (L.set w.1 w.2) Q := rfl
    rw [e]
    by_cases hw : w.1 = i
    · rw [if_pos hw] at h
      have h2 : w.2 = x ∧ qAt Q i = [] := by simpa using h
      rw [seen_free Q _ h2.2, hw, getD_set_eq hi, h2.1]
    · rw [if_neg hw] at h
      exact seen_wait Q _ (by simpa using hi) (by simpa using h)
theorem rest_free {i : Nat} : ∀ (Q : List (Nat × List UInt8)) (L : List Page) (list : List Int), qAt Q i = [] → (restL L Q list).getD i [] = L.getD i []
  | [], L, _, _ => rfl
  | w :: Q, L, list, h => by
    rw [qAt_cons] at h
    have h2 := (List.append_eq_nil_iff.1 h)
    have hw : w.1 ≠ i := fun e => by rw [if_pos e] at h2; exact absurd h2.1 (by simp)
    cases list with
    | nil => rw [restL, rest_free Q _ [] h2.2, getD_set_ne hw]
    | cons t ts => rw [restL, rest_free Q _ ts h2.2, getD_set_ne hw]
theorem rest_wait {i : Nat} {x : Page} : ∀ (Q : List (Nat × List UInt8)) (L : List Page) (list : List Int), i < L.length → qAt Q i = [x] → ∃ t, (restL L Q list).getD i [] = mixed (L.getD i []) x t
  | [], L, _, _, h => by cases h
  | w :: Q, L, list, hi, h => by
    rw [qAt_cons] at h
    by_cases hw : w.1 = i
    · rw [if_pos hw] at h
      have h2 : w.2 = x ∧ qAt Q i = [] := by simpa using h
      cases list with
      | nil => exact ⟨0, by rw [restL, rest_free Q _ [] h2.2, hw, getD_set_eq hi, h2.1]⟩
      | cons t ts => exact ⟨t, by rw [restL, rest_free Q _ ts h2.2, hw, getD_set_eq hi, h2.1]⟩
    · rw [if_neg hw] at h
      cases list with
      | nil =>
        obtain ⟨t, e⟩ := rest_wait Q (L.set w.1 (mixed (L.getD w.1 []) w.2 0)) [] (by simpa using hi) (by simpa using h)
        exact ⟨t, by rw [restL, e, getD_set_ne hw]⟩
      | cons t ts =>
        obtain ⟨t', e⟩ := rest_wait Q (L.set w.1 (mixed (L.getD w.1 []) w.2 t)) ts (by simpa using hi) (by simpa using h)
        exact ⟨t', by rw [restL, e, getD_set_ne hw]⟩
/-- Pages W were written over B, from position s on, of which the first f last and the others wait. -/
structure Core (D : Dev) (n start count s f : Nat) (B W : List Page) : Prop where
  wf : D.Wf n
  fit : start + count ≤ n
  fl : f ≤ W.length
  room : s + W.length ≤ count
  lasts : ∀ j, j < count → D.lasts.getD (start + j) [] = if s ≤ j ∧ j < s + f then W.getD (j - s) [] else B.getD j []
  queue : ∀ j, j < count → qAt D.queue (start + j) = if s + f ≤ j ∧ j < s + W.length then [W.getD (j - s) []] else []
section
variable {D : Dev} {n start count s f : Nat} {B W : List Page}
/-- What does not touch the log's pages. -/
theorem Core.same {D' : Dev} (c : Core D n start count s f B W) (wf : D'.Wf n) (hl : ∀ j, j < count → D'.lasts.getD (start + j) [] = D.lasts.getD (start + j) []) (hq : ∀ j, j < count → qAt D'.queue (start + j) = qAt D.queue (start + j)) : Core D' n start count s f B W :=
  ⟨wf, c.fit, c.fl, c.room, fun j hj => by rw [hl j hj, c.lasts j hj], fun j hj => by rw [hq j hj, c.queue j hj]⟩
theorem Core.op (c : Core D n start count s f B W) : Core (opD D) n start count s f B W := c.same (opD_wf c.wf) (fun _ _ => by rw [opD_lasts]) (fun _ _ => by rw [opD_queue])
theorem Core.fuse (c : Core D n start count s f B W) {k : Int} (hk : k ≤ 9223372036854775807) : Core (fuseD D k) n start count s f B W := c.same (fuseD_wf c.wf hk) (fun _ _ => rfl) (fun _ _ => rfl)
theorem getD_snoc {W : List Page} {x : Page} {j : Nat} (h : j < W.length) : (W ++ [x]).getD j [] = W.getD j [] := by
  rw [List.getD_eq_getElem?_getD, List.getElem?_append_left h, ← List.getD_eq_getElem?_getD]
theorem getD_snoc_last {W : List Page} {x : Page} : (W ++ [x]).getD W.length [] = x := by
  rw [List.getD_eq_getElem?_getD, List.getElem?_append_right (Nat.le_refl _), Nat.sub_self]; rfl
/-- A page is written, or the power is gone. -/
theorem Core.write (c : Core D n start count s f B W) {x : Page} (hx : x.length = 128) (hr : s + W.length < count) :
    ((writeD D ((start + s + W.length : Nat) : Int) x).1 = 0 ∧ (writeD D ((start + s + W.length : Nat) : Int) x).2.down = false ∧ Core (writeD D ((start + s + W.length : Nat) : Int) x).2 n start count s f B (W ++ [x])) ∨
    ((writeD D ((start + s + W.length : Nat) : Int) x).1 = 6 ∧ (writeD D ((start + s + W.length : Nat) : Int) x).2.down = true ∧ Core (writeD D ((start + s + W.length : Nat) : Int) x).2 n start count s f B W) := by
  have hf := c.fit
  cases hd : D.down
  rotate_left
  · have e : writeD D ((start + s + W.length : Nat) : Int) x = (6, D) := by rw [writeD, if_pos (by rw [reach_down hd]; omega), reach_down hd]
    rw [e]
    exact .inr ⟨rfl, hd, c⟩
  have hi : start + s + W.length < n := by omega
  cases ho : (opD D).down
  rotate_left
  · have e : writeD D ((start + s + W.length : Nat) : Int) x = (6, opD D) := by rw [writeD, if_neg (by simpa using reach_zero c.wf hd hi), if_neg (by simp [hx]), if_pos ho]
    rw [e]
    exact .inr ⟨rfl, ho, c.op⟩
  have wf := writeD_wf c.wf ((start + s + W.length : Nat) : Int) x
  have e := writeD_zero c.wf hd hi hx ho
  rw [e] at wf ⊢
  refine .inl ⟨rfl, ho, wf, c.fit, by rw [List.length_append]; have := c.fl; omega, by rw [List.length_append]; simp; omega, fun j hj => ?_, fun j hj => ?_⟩
  · show (opD D).lasts.getD (start + j) [] = _
    rw [opD_lasts, c.lasts j hj]
    have := c.fl
    by_cases h : s ≤ j ∧ j < s + f
    · rw [if_pos h, if_pos h, getD_snoc (by omega)]
    · rw [if_neg h, if_neg h]
  · show qAt (D.queue ++ [(start + s + W.length, x)]) (start + j) = _
    rw [qAt_snoc, c.queue j hj, List.length_append]
    have := c.fl
    by_cases h : s + f ≤ j ∧ j < s + W.length
    · rw [if_pos h, if_neg (by omega), if_pos ⟨h.1, by omega⟩, getD_snoc (by omega)]; rfl
    · rw [if_neg h]
      by_cases he : start + s + W.length = start + j
      · rw [if_pos he, if_pos ⟨by omega, by simp; omega⟩]
        have : j - s = W.length := by omega
        rw [this, getD_snoc_last]; rfl
      · rw [if_neg he, if_neg (by simp; omega)]; rfl
/-- Another page is written. -/
theorem Core.other (c : Core D n start count s f B W) {i : Int} {xs : List UInt8} (hi : i < start ∨ (start + count : Nat) ≤ i) : Core (writeD D i xs).2 n start count s f B W ∧ (D.down = true → (writeD D i xs).2.down = true) := by
  have wf := writeD_wf c.wf i xs
  unfold writeD at wf ⊢
  split
  · exact ⟨c, id⟩
  · rename_i hr
    split
    · exact ⟨c, id⟩
    · rename_i hx
      rw [if_neg hr, if_neg hx] at wf
      obtain ⟨hdn, h0, h1⟩ := reach_in c.wf (by simpa using hr)
      split
      · exact ⟨c.op, fun h => by rw [hdn] at h; cases h⟩
      · rename_i hd
        rw [if_neg hd] at wf
        refine ⟨c.same wf (fun j _ => by show (opD D).lasts.getD _ _ = _; rw [opD_lasts]) fun j hj => ?_, fun h => by rw [hdn] at h; cases h⟩
        show qAt (D.queue ++ [(i.toNat, xs)]) (start + j) = _
        rw [qAt_snoc, if_neg (by omega), List.append_nil]
theorem Core.seen (c : Core D n start count s f B W) {j : Nat} (hj : j < count) : D.seen.getD (start + j) [] = if s ≤ j ∧ j < s + W.length then W.getD (j - s) [] else B.getD j [] := by
  have hq := c.queue j hj
  have hl := c.lasts j hj
  have := c.fl
  have hn := c.wf.len
  have := c.fit
  unfold Dev.seen
  by_cases h : s + f ≤ j ∧ j < s + W.length
  · rw [if_pos h] at hq
    rw [seen_wait _ _ (by omega) hq, if_pos (by omega)]
  · rw [if_neg h] at hq
    rw [seen_free _ _ hq, hl]
    by_cases h2 : s ≤ j ∧ j < s + f
    · rw [if_pos h2, if_pos (by omega)]
    · rw [if_neg h2, if_neg (by omega)]
/-- All pages are made to last, or the power is gone. -/
theorem Core.flush (c : Core D n start count s f B W) :
    ((flushD D).1 = 0 ∧ D.down = false ∧ (flushD D).2.down = false ∧ Core (flushD D).2 n start count s W.length B W) ∨ ((flushD D).1 = 6 ∧ (flushD D).2.down = true ∧ Core (flushD D).2 n start count s f B W) := by
  cases hd : D.down
  rotate_left
  · have e : flushD D = (6, D) := by rw [flushD, if_pos hd]
    rw [e]
    exact .inr ⟨rfl, hd, c⟩
  cases ho : (opD D).down
  rotate_left
  · have e : flushD D = (6, opD D) := by rw [flushD, if_neg (by simp [hd]), if_pos ho]
    rw [e]
    exact .inr ⟨rfl, ho, c.op⟩
  have wf := flushD_wf c.wf
  have e := flushD_zero hd ho
  rw [e] at wf ⊢
  refine .inl ⟨rfl, rfl, ho, wf, c.fit, Nat.le_refl _, c.room, fun j hj => c.seen hj, fun j hj => ?_⟩
  rw [if_neg (by omega)]
  rfl
theorem Core.restart (c : Core D n start count s f B W) (list : List Int) {j : Nat} (hj : j < count) :
    ((restartD D list).lasts.getD (start + j) [] = if s ≤ j ∧ j < s + f then W.getD (j - s) [] else B.getD j []) ∧ ¬(s + f ≤ j ∧ j < s + W.length) ∨
    (s + f ≤ j ∧ j < s + W.length) ∧ ∃ t, (restartD D list).lasts.getD (start + j) [] = mixed (B.getD j []) (W.getD (j - s) []) t := by
  have hq := c.queue j hj
  have hl := c.lasts j hj
  have hn := c.wf.len
  have := c.fit
  show ((restL D.lasts D.queue list).getD (start + j) [] = _) ∧ _ ∨ _ ∧ ∃ t, (restL D.lasts D.queue list).getD (start + j) [] = _
  by_cases h : s + f ≤ j ∧ j < s + W.length
  · rw [if_pos h] at hq
    obtain ⟨t, e⟩ := rest_wait D.queue D.lasts list (by omega) hq
    refine .inr ⟨h, t, ?_⟩
    rw [e, hl, if_neg (by omega)]
  · rw [if_neg h] at hq
    exact .inl ⟨by rw [rest_free _ _ _ hq, hl], h⟩
end
theorem mixL_of : ∀ (W B R : List Page) (f : Nat), W.length ≤ B.length → R.length = B.length → (∀ j, j < W.length → R.getD j [] = W.getD j [] ∨ (f ≤ j ∧ (R.getD j [] = B.getD j [] ∨ Bad (R.getD j [])))) → (∀ j, W.length ≤ j → R.getD j [] = B.getD j []) → MixL f W B R
  | [], B, R, f, _, hl, _, h => by
    show R = B
    apply List.ext_getElem hl
    intro j h1 h2
    have := h j (Nat.zero_le _)
    rwa [List.getD_eq_getElem?_getD, List.getD_eq_getElem?_getD, List.getElem?_eq_getElem h1, List.getElem?_eq_getElem h2] at this
  | w :: W, b :: B, r :: R, f, hw, hl, h1, h2 => by
    refine ⟨?_, mixL_of W B R (f - 1) (by simpa using hw) (by simpa using hl) (fun j hj => ?_) fun j hj => ?_⟩
    · rcases h1 0 (by simp) with h | ⟨h, h'⟩
      · exact .inl h
      · exact .inr ⟨by omega, h'⟩
    · rcases h1 (j + 1) (by simpa using hj) with h | ⟨h, h'⟩
      · exact .inl h
      · exact .inr ⟨by omega, h'⟩
    · exact h2 (j + 1) (by simpa using hj)
  | _ :: _, [], _, _, hw, _, _, _ => by simp at hw
  | _ :: _, _ :: _, [], _, _, hl, _, _ => by simp at hl
end Go.Proofs.Ytbmhphnidfpclaa
/- Layer 9: a log between two openings (no program in sight). -/
set_option linter.unusedVariables false
set_option maxRecDepth 100000
namespace Go.Proofs.Ytbmhphnidfpclaa
open Go Go.Vc Go.Proofs
theorem recQ_snoc (g at_ : Nat) (b : List UInt8) (N : Nat) : ∀ k i, recQ g at_ b N (k + 1) i = recQ g at_ b N k i ++ [pageW g (at_ + (i + k) + 1) (kindN (i + k) N) (partB b (i + k))]
  | 0, i => by simp [recQ]
  | k + 1, i => by
    rw [recQ, recQ_snoc g at_ b N k (i + 1), recQ, List.cons_append, show i + 1 + k = i + (k + 1) by omega]
/-- A log since its opening: x are the records that were found then, R those that were appended since (on pages W, of which the first f last). -/
structure Ep (D : Dev) (L : Lg) (n least G : Nat) (B W : List Page) (s f : Nat) (x R : List (List UInt8)) : Prop where
  core : Core D n L.start L.count s f B W
  lwf : L.Wf n
  len : B.length = L.count
  base : scanL B 0 least 0 [] [] 0 = (x, s)
  tame : ∀ j, j < L.count → Tame G j (B.getD j [])
  gen : G < L.gen
  least1 : 1 ≤ least
  leastg : least ≤ L.gen
  small : ∀ b ∈ R, b.length ≤ 6000
  pages : ∃ part, W = recsP L.gen s R ++ part ∧ Rest9 L.gen (s + partsS R) part ∧ (L.over = false → part = [] ∧ L.next = s + partsS R)
  over : L.over = true → D.down = true
theorem scan_split : ∀ (ps : List Page) (at_ l bg : Nat) (rc : List UInt8) (recs : List (List UInt8)) (nx : Nat) (x : List (List UInt8)) (s : Nat), scanL ps at_ l bg rc recs nx = (x, s) →
    (s = nx ∧ x = recs) ∨ (at_ < s ∧ ∃ l', l ≤ l' ∧ (∃ p ∈ ps, ∃ place least k b, decW p place least = some (l', k, b)) ∧ ∀ rest, scanL (ps.take (s - at_) ++ rest) at_ l bg rc recs nx = scanL rest s l' 0 [] x s)
  | [], at_, l, bg, rc, recs, nx, x, s, h => by cases h; exact .inl ⟨rfl, rfl⟩
  | p :: ps, at_, l, bg, rc, recs, nx, x, s, h => by
    rw [scanL_cons] at h
    cases hd : decW p (at_ + 1) l with
    | none => rw [hd] at h; cases h; exact .inl ⟨rfl, rfl⟩
    | some y =>
      obtain ⟨g, k, b⟩ := y
      rw [hd] at h
      dsimp only at h
      have hlg := decW_least hd
      split at h
      · cases h; exact .inl ⟨rfl, rfl⟩
      · rename_i hc
        split at h
        · rename_i hk
          rcases scan_split ps (at_ + 1) g 0 [] (recs ++ [rc ++ b]) (at_ + 1) x s h with ⟨h1, h2⟩ | ⟨h1, l', h2, ⟨q, hq, hq'⟩, h3⟩
          · subst h1; subst h2
            refine .inr ⟨by omega, g, hlg, ⟨p, List.mem_cons_self .., _, _, _, _, hd⟩, fun rest => ?_⟩
            rw [show at_ + 1 - at_ = 1 by omega, List.take_succ_cons, List.take_zero, List.cons_append, List.nil_append, scanL_cons, hd]
            dsimp only
            rw [if_neg hc, if_pos hk]
          · refine .inr ⟨by omega, l', by omega, ⟨q, List.mem_cons_of_mem _ hq, hq'⟩, fun rest => ?_⟩
            rw [show s - at_ = (s - (at_ + 1)) + 1 by omega, List.take_succ_cons, List.cons_append, scanL_cons, hd]
            dsimp only
            rw [if_neg hc, if_pos hk]
            exact h3 rest
        · rename_i hk
          rcases scan_split ps (at_ + 1) g g (rc ++ b) recs nx x s h with h1 | ⟨h1, l', h2, ⟨q, hq, hq'⟩, h3⟩
          · exact .inl h1
          · refine .inr ⟨by omega, l', by omega, ⟨q, List.mem_cons_of_mem _ hq, hq'⟩, fun rest => ?_⟩
            rw [show s - at_ = (s - (at_ + 1)) + 1 by omega, List.take_succ_cons, List.cons_append, scanL_cons, hd]
            dsimp only
            rw [if_neg hc, if_neg hk]
            exact h3 rest
section
variable {D : Dev} {L : Lg} {n least G s f : Nat} {B W : List Page} {x R : List (List UInt8)}
theorem Ep.same {D' : Dev} (e : Ep D L n least G B W s f x R) (c : Core D' n L.start L.count s f B W) (h : D.down = true → D'.down = true) : Ep D' L n least G B W s f x R :=
  ⟨c, e.lwf, e.len, e.base, e.tame, e.gen, e.least1, e.leastg, e.small, e.pages, fun ho => h (e.over ho)⟩
theorem Ep.fuse (e : Ep D L n least G B W s f x R) {k : Int} (hk : k ≤ 9223372036854775807) : Ep (fuseD D k) L n least G B W s f x R := e.same (e.core.fuse hk) id
theorem Ep.other (e : Ep D L n least G B W s f x R) {i : Int} {xs : List UInt8} (hi : i < L.start ∨ (L.start + L.count : Nat) ≤ i) : Ep (writeD D i xs).2 L n least G B W s f x R :=
  e.same (e.core.other hi).1 (e.core.other hi).2
theorem put_ep {W0 : List Page} (b : List UInt8) (hr : s + W0.length + partsN b.length ≤ L.count) (hn : L.next = s + W0.length) : ∀ (k i : Nat) (D : Dev), i + k = partsN b.length → Core D n L.start L.count s f B (W0 ++ recQ L.gen L.next b (partsN b.length) i 0) →
    ((putA L b k i D).1 = 0 ∧ Core (putA L b k i D).2 n L.start L.count s f B (W0 ++ recP L.gen L.next b)) ∨
    ((putA L b k i D).1 = 6 ∧ (putA L b k i D).2.down = true ∧ ∃ i', i' < partsN b.length ∧ Core (putA L b k i D).2 n L.start L.count s f B (W0 ++ recQ L.gen L.next b (partsN b.length) i' 0))
  | 0, i, D, hi, c => by
    obtain rfl : i = partsN b.length := by omega
    exact .inl ⟨rfl, c⟩
  | k + 1, i, D, hi, c => by
    have hx := pageA_len L b i
    have hl : (W0 ++ recQ L.gen L.next b (partsN b.length) i 0).length = W0.length + i := by rw [List.length_append, recQ_length]
    have hw := c.write hx (by rw [hl]; omega)
    rw [hl, show L.start + s + (W0.length + i) = L.start + L.next + i by omega] at hw
    rw [putA_succ]
    rcases hw with ⟨h0, _, c'⟩ | ⟨h6, hd, c'⟩
    · rw [if_neg (by simpa using h0)]
      refine put_ep b hr hn k (i + 1) _ (by omega) ?_
      rw [recQ_snoc, ← List.append_assoc]
      have : pageW L.gen (L.next + (0 + i) + 1) (kindN (0 + i) (partsN b.length)) (partB b (0 + i)) = pageA L b i := by rw [Nat.zero_add]; rfl
      rw [this]
      exact c'
    · rw [if_pos (by rw [h6]; omega)]
      exact .inr ⟨h6, hd, i, by omega, c'⟩
theorem Ep.append (e : Ep D L n least G B W s f x R) {b : List UInt8} (hb : b.length ≤ 6000) :
    ((appendD L D b).1 = 5 ∧ (appendD L D b).2 = (L, D)) ∨
    ((appendD L D b).1 = 0 ∧ L.over = false ∧ (appendD L D b).2.1.over = false ∧ ∃ W', Ep (appendD L D b).2.2 (appendD L D b).2.1 n least G B W' s f x (R ++ [b])) ∨
    ((appendD L D b).1 = 6 ∧ (appendD L D b).2.1.over = true ∧ ∃ W', Ep (appendD L D b).2.2 (appendD L D b).2.1 n least G B W' s f x R) := by
  have hlw := appendD_lwf (D := D) e.lwf b
  unfold appendD at hlw ⊢
  cases hov : L.over
  rotate_left
  · rw [if_pos rfl]
    exact .inr (.inr ⟨rfl, hov, W, e⟩)
  rw [hov, if_neg (show ¬false = true by simp), if_neg (by omega)] at hlw
  rw [if_neg (show ¬false = true by simp), if_neg (by omega)]
  by_cases h2 : L.count < L.next + partsN b.length
  · rw [if_pos h2]; exact .inl ⟨rfl, rfl⟩
  rw [if_neg h2] at hlw ⊢
  obtain ⟨part, hW, hrest, hno⟩ := e.pages
  obtain ⟨hp, hn⟩ := hno hov
  subst hp
  rw [List.append_nil] at hW
  have hWl : W.length = partsS R := by rw [hW, recsP_length]
  have hput := put_ep (L := L) (n := n) (s := s) (f := f) (B := B) (W0 := W) b (by omega) (by omega) (partsN b.length) 0 D (by omega) (by rw [recQ, List.append_nil]; exact e.core)
  have hW' : W ++ recP L.gen L.next b = recsP L.gen s (R ++ [b]) := by rw [recsP_snoc, hW, hn]
  rcases hput with ⟨h0, c⟩ | ⟨h6, hd, i, hi, c⟩
  · rw [if_neg (by simpa using h0)] at hlw ⊢
    refine .inr (.inl ⟨rfl, rfl, by first | rfl | exact hov, W ++ recP L.gen L.next b, ?_⟩)
    refine ⟨c, hlw.1, e.len, e.base, e.tame, e.gen, e.least1, e.leastg, ?_, ⟨[], ?_, rest_nil _ _, fun _ => ⟨rfl, ?_⟩⟩, fun h => ?_⟩
    · intro y hy
      rcases List.mem_append.1 hy with h | h
      · exact e.small y h
      · rw [List.mem_singleton.1 h]; exact hb
    · rw [List.append_nil]; exact hW'
    · dsimp only; rw [partsS_snoc, hn]; omega
    · cases h
  · rw [if_pos (by rw [h6]; omega)] at hlw ⊢
    refine .inr (.inr ⟨h6, ?_, W ++ recQ L.gen L.next b (partsN b.length) i 0, ?_⟩)
    · show (L.over || (putA L b (partsN b.length) 0 D).1 == 6) = true
      rw [h6, hov]; rfl
    · refine ⟨c, hlw.1, e.len, e.base, e.tame, e.gen, e.least1, e.leastg, e.small, ⟨recQ L.gen L.next b (partsN b.length) i 0, by rw [hW]; rfl, ⟨b, i, hb, hi, by rw [hn]; rfl⟩, fun h => ?_⟩, fun _ => hd⟩
      have h : (L.over || (putA L b (partsN b.length) 0 D).1 == 6) = false := h
      rw [h6, hov] at h
      cases h
theorem Ep.flush (e : Ep D L n least G B W s f x R) :
    ((flushL L D).1 = 0 ∧ L.over = false ∧ (flushL L D).2.1 = L ∧ Ep (flushL L D).2.2 L n least G B W s W.length x R) ∨
    ((flushL L D).1 = 6 ∧ (flushL L D).2.1.over = true ∧ Ep (flushL L D).2.2 (flushL L D).2.1 n least G B W s f x R) := by
  unfold flushL
  cases hov : L.over
  rotate_left
  · rw [if_pos rfl]
    exact .inr ⟨rfl, hov, e⟩
  rw [if_neg (by simp)]
  rcases e.core.flush with ⟨h0, h1, h2, c⟩ | ⟨h6, hd, c⟩
  · refine .inl ⟨h0, rfl, ?_, ?_⟩
    · dsimp only
      rw [h0]
      unfold overL
      simp
    · exact ⟨c, e.lwf, e.len, e.base, e.tame, e.gen, e.least1, e.leastg, e.small, e.pages, fun h => by rw [hov] at h; cases h⟩
  · refine .inr ⟨h6, ?_, ?_⟩
    · dsimp only
      rw [h6]
      simp [overL]
    · dsimp only
      rw [h6]
      obtain ⟨part, hW, hrest, hno⟩ := e.pages
      exact ⟨c, ⟨e.lwf.next, e.lwf.room, e.lwf.max, e.lwf.gen⟩, e.len, e.base, e.tame, e.gen, e.least1, e.leastg, e.small, ⟨part, hW, hrest, fun h => by simp [overL] at h⟩, fun _ => hd⟩
/-- The device's own flush. -/
theorem Ep.flushed (e : Ep D L n least G B W s f x R) : Ep (flushD D).2 L n least G B W s (if (flushD D).1 = 0 then W.length else f) x R := by
  rcases e.core.flush with ⟨h0, h1, h2, c⟩ | ⟨h6, hd, c⟩
  · rw [if_pos h0]
    exact ⟨c, e.lwf, e.len, e.base, e.tame, e.gen, e.least1, e.leastg, e.small, e.pages, fun h => by have := e.over h; rw [h1] at this; cases this⟩
  · rw [if_neg (by omega)]
    exact e.same c fun _ => hd
/-- A log that was just opened. -/
theorem ep_open {d start count gen : Nat} (wf : D.Wf n) (hr : start + count ≤ n) (hg : gen < 4294967296) (hq : D.queue = []) (tame : ∀ j, j < count → Tame G j (D.lasts.getD (start + j) [])) (hG : G < gen) (h1 : 1 ≤ least) (h2 : least ≤ gen) :
    Ep D ⟨d, start, count, gen, (scanD D start count least).2, false⟩ n least G (reg D start count) [] (scanD D start count least).2 0 (scanD D start count least).1 [] := by
  have hs : D.seen = D.lasts := by rw [Dev.seen, hq]; rfl
  have hreg : ∀ j, j < count → (reg D start count).getD j [] = D.lasts.getD (start + j) [] := fun j hj => by
    rw [reg, hs, List.getD_eq_getElem?_getD, List.getD_eq_getElem?_getD, List.getElem?_take, if_pos hj, List.getElem?_drop]
  have hl := reg_length (D := D) wf hr
  have hsc := scanL_le (reg D start count) 0 least 0 [] [] 0 (Nat.zero_le _)
  rw [hl, Nat.zero_add] at hsc
  have hsc : (scanD D start count least).2 ≤ count := hsc
  refine ⟨⟨wf, hr, Nat.le_refl _, by simpa using hsc, fun j hj => ?_, fun j hj => ?_⟩, ⟨hsc, hr, wf.max, hg⟩, hl, rfl, fun j hj => ?_, hG, h1, h2, fun b hb => (by cases hb), ⟨[], rfl, rest_nil _ _, fun _ => ⟨rfl, by simp [partsS]⟩⟩, fun h => (by cases h)⟩
  · rw [if_neg (by omega), hreg j hj]
  · rw [if_neg (by simp only [List.length_nil]; omega), hq]; rfl
  · rw [hreg j hj]; exact tame j hj
theorem recQ_get {g at_ N : Nat} {b : List UInt8} : ∀ (k i j : Nat), j < k → ∃ kd c, c.length ≤ 110 ∧ (recQ g at_ b N k i).getD j [] = pageW g (at_ + i + j + 1) kd c
  | 0, i, j, h => by omega
  | k + 1, i, 0, h => ⟨_, _, partB_len b i, rfl⟩
  | k + 1, i, j + 1, h => by
    obtain ⟨kd, c, hc, e⟩ := recQ_get (g := g) (at_ := at_) (N := N) (b := b) k (i + 1) j (by omega)
    refine ⟨kd, c, hc, ?_⟩
    rw [show at_ + i + (j + 1) + 1 = at_ + (i + 1) + j + 1 by omega]
    exact e
theorem getD_append_left {a b : List Page} {j : Nat} (h : j < a.length) : (a ++ b).getD j [] = a.getD j [] := by
  rw [List.getD_eq_getElem?_getD, List.getElem?_append_left h, ← List.getD_eq_getElem?_getD]
theorem getD_append_right {a b : List Page} {j : Nat} (h : a.length ≤ j) : (a ++ b).getD j [] = b.getD (j - a.length) [] := by
  rw [List.getD_eq_getElem?_getD, List.getElem?_append_right h, ← List.getD_eq_getElem?_getD]
theorem recsP_get {g : Nat} : ∀ (rs : List (List UInt8)) (at_ j : Nat), j < partsS rs → ∃ kd c, c.length ≤ 110 ∧ (recsP g at_ rs).getD j [] = pageW g (at_ + j + 1) kd c
  | [], at_, j, h => by simp [partsS] at h
  | b :: rs, at_, j, h => by
    rw [partsS] at h
    rw [recsP]
    by_cases hj : j < partsN b.length
    · rw [getD_append_left (by rw [recP_length]; exact hj)]
      obtain ⟨kd, c, hc, e⟩ := recQ_get (g := g) (at_ := at_) (N := partsN b.length) (b := b) (partsN b.length) 0 j hj
      exact ⟨kd, c, hc, by rw [recP, e]; rfl⟩
    · rw [getD_append_right (by rw [recP_length]; omega), recP_length]
      obtain ⟨kd, c, hc, e⟩ := recsP_get rs (at_ + partsN b.length) (j - partsN b.length) (by omega)
      refine ⟨kd, c, hc, ?_⟩
      rw [e]
      congr 1
      omega
theorem Ep.page (e : Ep D L n least G B W s f x R) {j : Nat} (hj : j < W.length) : ∃ kd c, c.length ≤ 110 ∧ W.getD j [] = pageW L.gen (s + j + 1) kd c := by
  obtain ⟨part, hW, ⟨b, k, hb, hk, hp⟩, hno⟩ := e.pages
  subst hW
  by_cases h : j < partsS R
  · rw [getD_append_left (by rw [recsP_length]; exact h)]
    exact recsP_get R s j h
  · rw [List.length_append, recsP_length, hp, recQ_length] at hj
    rw [getD_append_right (by rw [recsP_length]; omega), recsP_length, hp]
    obtain ⟨kd, c, hc, e⟩ := recQ_get (g := L.gen) (at_ := s + partsS R) (N := partsN b.length) (b := b) k 0 (j - partsS R) (by omega)
    refine ⟨kd, c, hc, ?_⟩
    rw [e]
    congr 1
    omega
/-- Behind a crash: the records are those that were there, and the first ones of those that were appended since; all those whose pages last. -/
theorem Ep.crash (e : Ep D L n least G B W s f x R) (hg : L.gen < 256) (hc : L.count < 255) (list : List Int) :
    ∃ m, m ≤ R.length ∧ (scanD (restartD D list) L.start L.count least).1 = x ++ R.take m ∧ (∀ q, q ≤ R.length → partsS (R.take q) ≤ f → q ≤ m) ∧
      (restartD D list).Wf n ∧ (restartD D list).queue = [] ∧ (restartD D list).down = false ∧ ∀ j, j < L.count → Tame L.gen j ((restartD D list).lasts.getD (L.start + j) []) := by
  have wr := restartD_wf e.core.wf list
  have hfit := e.core.fit
  have hroom := e.core.room
  have hfl := e.core.fl
  generalize hE : restartD D list = E at *
  have hEq : E.queue = [] := by rw [← hE]; rfl
  have hEd : E.down = false := by rw [← hE]; rfl
  have hs : E.seen = E.lasts := by rw [Dev.seen, hEq]; rfl
  have hreg : ∀ j, j < L.count → (reg E L.start L.count).getD j [] = E.lasts.getD (L.start + j) [] := fun j hj => by
    rw [reg, hs, List.getD_eq_getElem?_getD, List.getD_eq_getElem?_getD, List.getElem?_take, if_pos hj, List.getElem?_drop]
  have hl := reg_length (D := E) wr hfit
  have key : ∀ j, j < L.count → Tame L.gen j (E.lasts.getD (L.start + j) []) ∧
      ((s ≤ j ∧ j < s + W.length ∧ (E.lasts.getD (L.start + j) [] = W.getD (j - s) [] ∨ (s + f ≤ j ∧ (E.lasts.getD (L.start + j) [] = B.getD j [] ∨ Bad (E.lasts.getD (L.start + j) []))))) ∨ (¬(s ≤ j ∧ j < s + W.length) ∧ E.lasts.getD (L.start + j) [] = B.getD j [])) := by
    intro j hj
    rcases e.core.restart list hj with ⟨h1, h2⟩ | ⟨h2, t, h1⟩
    · rw [hE] at h1
      by_cases hsj : s ≤ j ∧ j < s + f
      · rw [if_pos hsj] at h1
        refine ⟨?_, .inl ⟨hsj.1, by omega, .inl h1⟩⟩
        obtain ⟨kd, c, hc', e'⟩ := e.page (j := j - s) (by omega)
        rw [h1, e', show s + (j - s) + 1 = j + 1 by omega]
        exact tame_page hg (by omega) hc'
      · rw [if_neg hsj] at h1
        exact ⟨by rw [h1]; exact (e.tame j hj).mono (Nat.le_of_lt e.gen), .inr ⟨by omega, h1⟩⟩
    · rw [hE] at h1
      obtain ⟨kd, c, hc', e'⟩ := e.page (j := j - s) (by omega)
      rw [show s + (j - s) + 1 = j + 1 by omega] at e'
      rw [e'] at h1
      have ht := torn_page (t := t) (k := kd) (e.tame j hj) e.gen hg (by omega) hc'
      rw [← h1] at ht
      exact ⟨ht.1, .inl ⟨by omega, by omega, by rw [e']; rcases ht.2 with h | h | h; exact .inl h; exact .inr ⟨h2.1, .inl h⟩; exact .inr ⟨h2.1, .inr h⟩⟩⟩
  have hsplit : reg E L.start L.count = B.take s ++ (reg E L.start L.count).drop s := by
    have : (reg E L.start L.count).take s = B.take s := by
      apply List.ext_getElem?
      intro j
      rw [List.getElem?_take, List.getElem?_take]
      by_cases hj : j < s
      · rw [if_pos hj, if_pos hj]
        have hjc : j < L.count := by omega
        have h1 := hreg j hjc
        rcases (key j hjc).2 with ⟨h, _⟩ | ⟨_, h⟩
        · omega
        · rw [h] at h1
          rw [List.getD_eq_getElem?_getD, List.getD_eq_getElem?_getD, List.getElem?_eq_getElem (show j < (reg E L.start L.count).length by omega), List.getElem?_eq_getElem (show j < B.length by rw [e.len]; omega)] at h1
          rw [List.getElem?_eq_getElem (show j < (reg E L.start L.count).length by omega), List.getElem?_eq_getElem (show j < B.length by rw [e.len]; omega)]
          exact congrArg some h1
      · rw [if_neg hj, if_neg hj]
    rw [← this, List.take_append_drop]
  have hold : OldL L.gen (B.drop s) := by
    intro p hp place least' g' k b hd
    obtain ⟨j, hj, rfl⟩ := List.mem_iff_getElem.1 (List.mem_of_mem_drop hp)
    have hjc : j < L.count := by rw [← e.len]; exact hj
    have ht := e.tame j hjc
    rw [List.getD_eq_getElem?_getD, List.getElem?_eq_getElem hj] at ht
    have := ht.gen (by have := e.gen; omega) (by omega) hd
    have := e.gen
    omega
  have hmix : MixL f W (B.drop s) ((reg E L.start L.count).drop s) := by
    refine mixL_of W _ _ f (by rw [List.length_drop, e.len]; omega) (by rw [List.length_drop, List.length_drop, e.len, hl]) (fun j hj => ?_) fun j hj => ?_
    · have hjc : s + j < L.count := by omega
      have h1 := hreg (s + j) hjc
      rw [List.getD_eq_getElem?_getD, List.getElem?_drop, ← List.getD_eq_getElem?_getD, h1]
      rcases (key (s + j) hjc).2 with ⟨_, _, h⟩ | ⟨h, _⟩
      · rw [show s + j - s = j by omega] at h
        rcases h with h | ⟨h2, h⟩
        · exact .inl h
        · refine .inr ⟨by omega, ?_⟩
          rw [List.getD_eq_getElem?_getD (l := B.drop s), List.getElem?_drop, ← List.getD_eq_getElem?_getD]
          exact h
      · omega
    · rw [List.getD_eq_getElem?_getD, List.getElem?_drop, ← List.getD_eq_getElem?_getD, List.getD_eq_getElem?_getD (l := B.drop s), List.getElem?_drop, ← List.getD_eq_getElem?_getD]
      by_cases hjc : s + j < L.count
      · rw [hreg _ hjc]
        rcases (key (s + j) hjc).2 with ⟨_, h, _⟩ | ⟨_, h⟩
        · omega
        · exact h
      · rw [List.getD_eq_getElem?_getD, List.getD_eq_getElem?_getD, List.getElem?_eq_none (by omega), List.getElem?_eq_none (by rw [e.len]; omega)]
  have hst : ∃ l', 1 ≤ l' ∧ l' ≤ L.gen ∧ ∀ rest, scanL (B.take s ++ rest) 0 least 0 [] [] 0 = scanL rest s l' 0 [] x s := by
    rcases scan_split B 0 least 0 [] [] 0 x s e.base with ⟨h1, h2⟩ | ⟨_, l', h2, ⟨p, hp, place, ls, k, b, hd⟩, h3⟩
    · subst h1; subst h2
      exact ⟨least, e.least1, e.leastg, fun rest => by rw [List.take_zero, List.nil_append]⟩
    · refine ⟨l', by have := e.least1; omega, ?_, h3⟩
      obtain ⟨j, hj, rfl⟩ := List.mem_iff_getElem.1 hp
      have hjc : j < L.count := by rw [← e.len]; exact hj
      have ht := e.tame j hjc
      rw [List.getD_eq_getElem?_getD, List.getElem?_eq_getElem hj] at ht
      have := ht.gen (by have := e.gen; omega) (by omega) hd
      have := e.gen
      omega
  obtain ⟨l', hl1, hlg, hrest⟩ := hst
  have hnone : scanL (B.drop s) s l' 0 [] x s = (x, s) := by
    rw [← hrest, List.take_append_drop]; exact e.base
  obtain ⟨part, hW, hr9, hno⟩ := e.pages
  rw [hW] at hmix
  have hps : partsS R ≤ W.length := by rw [hW, List.length_append, recsP_length]; omega
  have hmax := e.lwf.max
  obtain ⟨m, h1, h2, h3⟩ := scan_crash e.lwf.gen (by have := e.gen; omega) R part s f l' (B.drop s) ((reg E L.start L.count).drop s) x e.small (by omega) hr9 hl1 hlg hold hmix hnone
  refine ⟨m, h1, ?_, h3, wr, hEq, hEd, fun j hj => (key j hj).1⟩
  rw [scanD_reg, hsplit, hrest, h2]
end
end Go.Proofs.Ytbmhphnidfpclaa
