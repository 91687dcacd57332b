/- Keys and prefixes: what the functions of the program and of the reference answer (bits, shared bits, cuts). -/
import Derived.Test.Ytnaeicepapokjaa3a
import Derived.Test.YtnaeicepapokjaaFa
set_option linter.unusedVariables false
namespace Go.Proofs.Ytnaeicepapokjaa
open Go Go.Vc Go.Proofs Go.Vc.Keys

abbrev hv (ks : List UInt8) : Array Value := (bcs ks).toArray
abbrev pv (l : Int) (ks : List UInt8) : Array Value := (.int .i64 l :: bcs ks).toArray

theorem and_one (x s : Nat) : ((x / 2 ^ s) &&& 1) = if x.testBit s then 1 else 0 := by
  rw [Nat.and_one_is_mod, Nat.testBit_eq_decide_div_mod_eq]
  have := Nat.mod_two_eq_zero_or_one (x / 2 ^ s)
  rcases this with e | e <;> simp [e]
theorem bit_get {ks : List UInt8} (hk : ks.length = 32) {n : Nat} (hn : n < 256) : bit ks n = (ks[n / 8]'(by omega)).toNat.testBit (7 - n % 8) := by
  unfold bit
  rw [List.getD_eq_getElem?_getD, List.getElem?_eq_getElem (by omega), Option.getD_some]

theorem bitI_nat (ks : List UInt8) {n : Nat} (hn : n < 256) : bitI ks (n : Int) = if bit ks n then 1 else 0 := by
  unfold bitI
  rw [if_pos (show 0 ≤ (n : Int) ∧ (n : Int) < 256 by omega), Int.toNat_natCast]
theorem bit_ok {h : Heap} {ks : List UInt8} (hk : ks.length = 32) (i : Int) : CallsH Try.prog n_prefix_Bit #[.agg (hv ks), .int .i64 i] h fun v h' => v = .int .i64 (bitI ks i) ∧ Ext h h' := by
  refine C_prefix_Bit (hv ks) i ?_
  unfold F_prefix_Bit
  refine (St.start h).newBlk fun b h1 hb s e => ?_
  rw [br_decide]
  refine ⟨fun hi => ⟨by rw [bitI, if_neg (by omega)], e⟩, fun hi => ?_⟩
  rw [br_decide]
  refine ⟨fun hi' => ⟨by rw [bitI, if_neg (by omega)], e⟩, fun hi' => ?_⟩
  obtain ⟨n, rfl⟩ : ∃ n : Nat, i = n := ⟨i.toNat, by omega⟩
  have e1 : Int.tdiv (n : Int) 8 = ((n / 8 : Nat) : Int) := rfl
  have e2 : Int.tmod (n : Int) 8 = ((n % 8 : Nat) : Int) := rfl
  rw [e1, e2, wrap_i64 (by omega) (by omega)]
  have e3 : (7 : Int) - ((n % 8 : Nat) : Int) = ((7 - n % 8 : Nat) : Int) := by omega
  rw [e3, wrap_i64 (by omega) (by omega)]
  refine ⟨by omega, by omega, by omega, ((ks[n / 8]'(by omega)).toNat : Int), ?_, by omega, by omega, ?_⟩
  · simp only [add_mk, Int.toNat_natCast, Nat.zero_add, Nat.mul_one]
    exact s.cell0 (bcs_get (i := n / 8) (by omega))
  · refine ⟨?_, e⟩
    rw [shrI_nat _ _ _ (show 7 - n % 8 ≤ 8 by omega)]
    have hx := u8_lt (ks[n / 8]'(by omega))
    have hd := Nat.div_le_self (ks[n / 8]'(by omega)).toNat (2 ^ (7 - n % 8))
    rw [show (1 : Int) = ((1 : Nat) : Int) from rfl, andI_u8 (Nat.lt_of_le_of_lt hd hx) (by omega), and_one, bitI_nat _ (by omega), bit_get hk (by omega)]
    split <;> simp [wrap_i64]

theorem rbit_ok {h : Heap} {ks : List UInt8} (hk : ks.length = 32) (i : Int) : CallsH Try.prog n_ref03_Bit #[.agg (hv ks), .int .i64 i] h fun v h' => v = .int .i64 (bitI ks i) ∧ Ext h h' := by
  refine C_ref03_Bit (hv ks) i ?_
  unfold F_ref03_Bit
  refine (St.start h).newBlk fun b h1 hb s e => ?_
  rw [br_decide]
  refine ⟨fun hi => ⟨by rw [bitI, if_neg (by omega)], e⟩, fun hi => ?_⟩
  rw [br_decide]
  refine ⟨fun hi' => ⟨by rw [bitI, if_neg (by omega)], e⟩, fun hi' => ?_⟩
  obtain ⟨n, rfl⟩ : ∃ n : Nat, i = n := ⟨i.toNat, by omega⟩
  have e1 : Int.tdiv (n : Int) 8 = ((n / 8 : Nat) : Int) := rfl
  have e2 : Int.tmod (n : Int) 8 = ((n % 8 : Nat) : Int) := rfl
  have e3 : (7 : Int) - ((n % 8 : Nat) : Int) = ((7 - n % 8 : Nat) : Int) := by omega
  rw [e1, e2, e3, wrap_i64 (n := ((n / 8 : Nat) : Int)) (by omega) (by omega), wrap_i64 (n := ((7 - n % 8 : Nat) : Int)) (by omega) (by omega)]
  have hx := u8_lt (ks[n / 8]'(by omega))
  refine ⟨by omega, by omega, by omega, ((ks[n / 8]'(by omega)).toNat : Int), ?_, fun t h' => h' = h1 ∧ ∃ k : Nat, t.2 = k ∧ k ≤ 7 - n % 8 ∧ t.1 = (((ks[n / 8]'(by omega)).toNat / 2 ^ k : Nat) : Int), fun t _ => 8 - t.2.toNat, ⟨rfl, 0, rfl, by omega, ?_⟩, ?_⟩
  · simp only [add_mk, Int.toNat_natCast, Nat.zero_add, Nat.mul_one]
    exact s.cell0 (bcs_get (i := n / 8) (by omega))
  · rw [wrap_i64 (by omega) (by omega)]; simp
  rintro ⟨x, c⟩ h6 ⟨rfl, k, hc, hkn, hx'⟩
  simp only at hc hx' ⊢
  subst hc; subst hx'
  refine ⟨by omega, ?_⟩
  rw [br_decide]
  have hdk := Nat.lt_of_le_of_lt (Nat.div_le_self (ks[n / 8]'(by omega)).toNat (2 ^ k)) hx
  have hdk2 := Nat.lt_of_le_of_lt (Nat.div_le_self ((ks[n / 8]'(by omega)).toNat / 2 ^ k) 2) hdk
  have ed : Int.tdiv (((ks[n / 8]'(by omega)).toNat / 2 ^ k : Nat) : Int) 2 = (((ks[n / 8]'(by omega)).toNat / 2 ^ k / 2 : Nat) : Int) := rfl
  refine ⟨fun hlt => ⟨by omega, ⟨by trivial, k + 1, by rw [wrap_i64 (by omega) (by omega)]; omega, by omega, ?_⟩, ?_⟩, fun hge => ⟨by omega, ?_, e⟩⟩
  · rw [ed]
    rw [wrap_i64 (by exact Int.le_trans (by omega) (Int.natCast_nonneg _)) (by exact Int.le_trans (Int.ofNat_le.2 (Nat.le_of_lt hdk2)) (by omega)), Nat.pow_succ, Nat.div_div_eq_div_mul]
  · rw [wrap_i64 (by omega) (by omega)]; omega
  · have : k = 7 - n % 8 := by omega
    subst this
    have em : Int.tmod (((ks[n / 8]'(by omega)).toNat / 2 ^ (7 - n % 8) : Nat) : Int) 2 = (((ks[n / 8]'(by omega)).toNat / 2 ^ (7 - n % 8) % 2 : Nat) : Int) := rfl
    rw [em, ← Nat.and_one_is_mod, and_one, bitI_nat _ (by omega), bit_get hk (by omega)]
    split <;> simp

theorem sharedr_ok {h : Heap} {xs ys : List UInt8} (ha : xs.length = 32) (hb : ys.length = 32) :
    CallsH Try.prog n_ref03_Shared #[.agg (hv xs), .agg (hv ys)] h fun v h' => (∃ n : Nat, v = .int .i64 n ∧ Sh xs ys n) ∧ Ext h h' := by
  refine C_ref03_Shared (hv xs) (hv ys) ?_
  unfold F_ref03_Shared
  refine (St.start h).newBlk fun b0 h1 hb0 s e => s.newBlk fun b2 h3 hb2 s e2 => ?_
  refine ⟨fun n h' => ∃ k : Nat, n = k ∧ k ≤ 256 ∧ (∀ i, i < k → bit xs i = bit ys i) ∧ St h h' [pts b2 0 false (bcs ys), pts b0 0 false (bcs xs)], fun n _ => 256 - n.toNat, ⟨0, rfl, by omega, fun i hi => by omega, s⟩, ?_⟩
  intro n h7 hI
  obtain ⟨k, hn, hk, hall, s⟩ := hI
  subst hn
  rw [br_decide]
  refine ⟨fun hlt => ⟨hv xs, s.up1.row0 (by simp [bcs_length, ha]), hv ys, s.row0 (by simp [bcs_length, hb]), ?_⟩, fun hge => ⟨⟨k, rfl, hk, hall, fun h => by omega⟩, s.ext⟩⟩
  refine (rbit_ok ha k).mono fun v h11 ⟨hv1, e11⟩ => ⟨e11, _, hv1, (rbit_ok hb k).mono fun v h14 ⟨hv2, e14⟩ => ⟨e14, _, hv2, ?_⟩⟩
  have s := (s.keep e11).keep e14
  rw [br_beq, bitI_nat _ (show k < 256 by omega), bitI_nat _ (show k < 256 by omega)]
  refine ⟨fun heq => ⟨⟨k + 1, by rw [wrap_i64 (by omega) (by omega)]; omega, by omega, fun i hi => ?_, s⟩, by rw [wrap_i64 (by omega) (by omega)]; show 256 - ((k : Int) + 1).toNat < 256 - (k : Int).toNat; omega⟩, fun hne => ⟨⟨k, rfl, hk, hall, fun _ hbe => hne (by rw [hbe])⟩, s.ext⟩⟩
  by_cases hik : i = k
  · subst hik
    cases ea : bit xs i <;> cases eb : bit ys i <;> simp [ea, eb] at heq ⊢
  · exact hall i (by omega)

/-- How many digits a byte has, from the table: its first bit that is 1. -/
def lenB (x : Nat) : Nat := if x = 0 then 0 else Nat.log2 x + 1
theorem len_ok {h : Heap} (x : Nat) (hx : x < 256) : CallsH Try.prog n_math_bits_Len8 #[.int .u8 x] h fun v h' => v = .int .i64 (lenB x) ∧ h' = h := by
  refine C_math_bits_Len8 x ?_
  unfold F_math_bits_Len8
  refine ⟨by omega, UInt8.ofNat (lenB x), ?_, ?_, rfl⟩
  · rw [Int.toNat_natCast]
    have key : ∀ x : Fin 256, (ByteArray.mk (List.toArray (List.append (List.append
      [0, 1, 2, 2, 3, 3, 3, 3, 4, 4, 4, 4, 4, 4, 4, 4, 5, 5, 5, 5, 5, 5, 5, 5, 5, 5, 5, 5, 5, 5, 5, 5, 6, 6, 6, 6, 6, 6, 6, 6, 6, 6, 6, 6, 6, 6, 6, 6, 6, 6, 6, 6, 6, 6, 6, 6, 6, 6, 6, 6, 6, 6, 6, 6]
      (List.replicate 64 7)) (List.append (List.replicate 64 8) (List.replicate 64 8)))))[x.val]? = some (UInt8.ofNat (lenB x.val)) := by decide +kernel
    exact key ⟨x, hx⟩
  · have : lenB x ≤ 8 := by
      have key : ∀ x : Fin 256, lenB x.val ≤ 8 := by decide +kernel
      exact key ⟨x, hx⟩
    congr 1
    have e : ((UInt8.ofNat (lenB x)).toNat : Int) = (lenB x : Int) := by simp; omega
    rw [e, wrap_i64 (by omega) (by omega)]
theorem lead_facts (x : Nat) (hx : x < 256) (h0 : x ≠ 0) : 1 ≤ lenB x ∧ lenB x ≤ 8 ∧ x.testBit (lenB x - 1) = true ∧ ∀ j, j < 8 → lenB x ≤ j → x.testBit j = false := by
  have key : ∀ x : Fin 256, x.val ≠ 0 → 1 ≤ lenB x.val ∧ lenB x.val ≤ 8 ∧ x.val.testBit (lenB x.val - 1) = true ∧ ∀ j : Fin 8, lenB x.val ≤ j.val → x.val.testBit j.val = false := by decide +kernel
  obtain ⟨a, b, c, d⟩ := key ⟨x, hx⟩ h0
  exact ⟨a, b, c, fun j hj hl => d ⟨j, hj⟩ hl⟩
theorem lead_ok {h : Heap} (x : Nat) (hx : x < 256) : CallsH Try.prog n_math_bits_LeadingZeros8 #[.int .u8 x] h fun v h' => v = .int .i64 (8 - lenB x : Int) ∧ h' = h := by
  refine C_math_bits_LeadingZeros8 x ?_
  unfold F_math_bits_LeadingZeros8
  refine (len_ok x hx).mono fun v h1 ⟨hv, hh⟩ => ?_
  subst hh
  have hl : lenB x ≤ 8 := by
    by_cases h0 : x = 0
    · subst h0; decide
    · exact (lead_facts x hx h0).2.1
  exact ⟨Ext.refl _, _, hv, by rw [wrap_i64 (by omega) (by omega)], rfl⟩
theorem shared_ok {h : Heap} {xs ys : List UInt8} (ha : xs.length = 32) (hb : ys.length = 32) :
    CallsH Try.prog n_prefix_Shared #[.agg (hv xs), .agg (hv ys)] h fun v h' => (∃ n : Nat, v = .int .i64 n ∧ Sh xs ys n) ∧ Ext h h' := by
  refine C_prefix_Shared (hv xs) (hv ys) ?_
  unfold F_prefix_Shared
  refine (St.start h).newBlk fun b0 h1 hb0 s e => s.newBlk fun b2 h3 hb2 s e2 => ?_
  refine ⟨fun n h' => h' = h3 ∧ ∃ k : Nat, n = k ∧ k ≤ 32 ∧ ∀ i, i < k → xs.getD i 0 = ys.getD i 0, fun n _ => 32 - n.toNat, ⟨rfl, 0, rfl, by omega, fun i hi => by omega⟩, ?_⟩
  rintro n h7 ⟨rfl, k, rfl, hk, hall⟩
  rw [br_decide]
  refine ⟨fun hlt => ?_, fun hge => ⟨⟨256, rfl, Nat.le_refl _, fun i hi => ?_, fun h => by omega⟩, s.ext⟩⟩
  · have ga : xs.getD k 0 = xs[k]'(by omega) := by rw [List.getD_eq_getElem?_getD, List.getElem?_eq_getElem (by omega)]; rfl
    have gb : ys.getD k 0 = ys[k]'(by omega) := by rw [List.getD_eq_getElem?_getD, List.getElem?_eq_getElem (by omega)]; rfl
    have xa := u8_lt (xs[k]'(by omega))
    have xb := u8_lt (ys[k]'(by omega))
    refine ⟨by omega, by omega, ((xs[k]'(by omega)).toNat : Int), ?_, by omega, by omega, ((ys[k]'(by omega)).toNat : Int), ?_, ?_⟩
    · simp only [add_mk, Int.toNat_natCast, Nat.zero_add, Nat.mul_one]; exact s.up1.cell0 (bcs_get (by omega))
    · simp only [add_mk, Int.toNat_natCast, Nat.zero_add, Nat.mul_one]; exact s.cell0 (bcs_get (by omega))
    · rw [xorI_u8 xa xb, br_bne]
      have hlt8 := Nat.xor_lt_two_pow (n := 8) xa xb
      refine ⟨fun hne => (lead_ok _ hlt8).mono fun v h11 ⟨hv, hh⟩ => ?_, fun heq => ⟨⟨by trivial, k + 1, by rw [wrap_i64 (by omega) (by omega)]; omega, by omega, fun i hi => ?_⟩, by rw [wrap_i64 (by omega) (by omega)]; show 32 - ((k : Int) + 1).toNat < 32 - (k : Int).toNat; omega⟩⟩
      · subst hh
        obtain ⟨l1, l2, l3, l4⟩ := lead_facts _ hlt8 (fun e => hne (by rw [e]; rfl))
        refine ⟨Ext.refl _, _, hv, ⟨8 * k + (8 - lenB ((xs[k]'(by omega)).toNat ^^^ (ys[k]'(by omega)).toNat)), ?_, sh_of_byte (by omega) (by omega) hall (fun u hu => ?_) ?_⟩, s.ext⟩
        · congr 1
          rw [wrap_i64 (n := 8 * (k : Int)) (by omega) (by omega), wrap_i64 (by omega) (by omega)]
          omega
        · rw [ga, gb]
          have := l4 (7 - u) (by omega) (by omega)
          rw [Nat.testBit_xor] at this
          simpa using this
        · rw [ga, gb]
          rw [Nat.testBit_xor] at l3
          rw [show 7 - (8 - lenB ((xs[k]'(by omega)).toNat ^^^ (ys[k]'(by omega)).toNat)) = lenB ((xs[k]'(by omega)).toNat ^^^ (ys[k]'(by omega)).toNat) - 1 by omega]
          intro e
          rw [e] at l3
          simp at l3
      · by_cases hik : i = k
        · subst hik
          rw [ga, gb]
          apply UInt8.toNat_inj.1
          have h0 : (xs[i]'(by omega)).toNat ^^^ (ys[i]'(by omega)).toNat = 0 := by omega
          exact Nat.eq_of_testBit_eq fun u => by
            have := congrArg (fun n => Nat.testBit n u) h0
            simpa using this
        · exact hall i (by omega)
  · unfold bit
    rw [hall _ (by omega)]

end Go.Proofs.Ytnaeicepapokjaa
