/- Keys and prefixes: cuts, and what is told of prefixes. -/
import Derived.Test.Ytnaeicepapokjaa3b
set_option linter.unusedVariables false
namespace Go.Proofs.Ytnaeicepapokjaa
open Go Go.Vc Go.Proofs Go.Vc.Keys

theorem byte_wf (b : UInt8) : (Lit.int .u8 (b.toNat : Int)).wf = true := by
  have := u8_lt b
  simp [Lit.wf, IntKind.min, IntKind.max, IntKind.bits, IntKind.signed]
  omega
theorem keyLits_hash (d : Nat) {ks : List UInt8} (hk : ks.length = 32) : Try.prog.keyLits (d + 2) t_api_Hash (bcs ks) = some ((ks.map fun b => (b.toNat : Int)).map (Lit.int .u8)) := by
  have := keyLits_ints (P := Try.prog) (d := d) (n := 32) (t := t_api_Hash) (e := t_uint8) (k := .u8) u_api_Hash u_uint8 (by kernel_rfl) (by kernel_rfl) (ks.map fun b => (b.toNat : Int)) (by simpa using hk) (by
    intro x hx
    obtain ⟨b, _, rfl⟩ := List.mem_map.1 hx
    exact byte_wf b)
  rw [List.map_map] at this
  exact this
theorem toInts_inj {a b : List UInt8} (h : (a.map fun b => (b.toNat : Int)).map (Lit.int .u8) = (b.map fun b => (b.toNat : Int)).map (Lit.int .u8)) : a = b := by
  rw [List.map_map, List.map_map] at h
  exact (List.map_inj_right (by
    intro x y e
    simp at e
    exact UInt8.toNat_inj.1 (by omega))).1 h
theorem eq_hash {as' bs' : List UInt8} {K : Bool → Prop} (ha : as'.length = 32) (hb : bs'.length = 32) (hk : K (decide (as' = bs'))) : eqAgg Try.prog t_api_Hash (hv as') (hv bs') K := by
  refine ⟨_, _, keyLits_hash 7 ha, keyLits_hash 7 hb, fun r hr => ?_⟩
  have : r = decide (as' = bs') := by
    rw [Bool.eq_iff_iff, hr, decide_eq_true_iff]
    exact ⟨toInts_inj, fun e => by rw [e]⟩
  rw [this]; exact hk
/-- An int's number. -/
def I64 (n : Int) : Prop := -9223372036854775808 ≤ n ∧ n ≤ 9223372036854775807
theorem i64_wf {n : Int} (h : I64 n) : (Lit.int .i64 n).wf = true := by
  unfold I64 at h
  simp [Lit.wf, IntKind.min, IntKind.max, IntKind.bits, IntKind.signed]
  omega
theorem keyLits_prefix {l : Int} {ks : List UInt8} (hl : I64 l) (hk : ks.length = 32) : Try.prog.keyLits 9 t_api_Prefix (.int .i64 l :: bcs ks) = some (Lit.int .i64 l :: (ks.map fun b => (b.toNat : Int)).map (Lit.int .u8)) := by
  rw [Program.keyLits.eq_def]
  simp only
  rw [u_api_Prefix]
  have hc : Try.prog.cellsOf t_api_Prefix = 33 := by kernel_rfl
  have h1 : Try.prog.cellsOf t_int = 1 := by kernel_rfl
  have h2 : Try.prog.cellsOf t_api_Hash = 32 := by kernel_rfl
  simp only [hc, List.length_cons, bcs_length, hk]
  rw [if_pos ⟨trivial, by decide +kernel⟩]
  simp only [List.mapM_cons, List.mapM_nil, List.drop_zero, List.drop_succ_cons]
  have e1 : Try.prog.keyLits 8 t_int ((.int .i64 l :: bcs ks).take 1) = some [Lit.int .i64 l] := by
    rw [Program.keyLits.eq_def]
    simp only
    rw [u_int]
    simp [i64_wf hl]
  have e2 : Try.prog.keyLits 8 t_api_Hash ((bcs ks).take 32) = some ((ks.map fun b => (b.toNat : Int)).map (Lit.int .u8)) := by
    rw [List.take_of_length_le (by simp [bcs_length, hk])]
    exact keyLits_hash 6 hk
  rw [show Try.prog.cellsOf 3 = 1 from h1] 
  rw [h2]
  simp only [e1, e2]
  simp
theorem eq_prefix {l m : Int} {as' bs' : List UInt8} {K : Bool → Prop} (hl : I64 l) (hm : I64 m) (ha : as'.length = 32) (hb : bs'.length = 32) (hk : K (decide (l = m ∧ as' = bs'))) : eqAgg Try.prog t_api_Prefix (pv l as') (pv m bs') K := by
  refine ⟨_, _, keyLits_prefix hl ha, keyLits_prefix hm hb, fun r hr => ?_⟩
  have : r = decide (l = m ∧ as' = bs') := by
    rw [Bool.eq_iff_iff, hr, decide_eq_true_iff]
    constructor
    · intro e
      rw [List.cons.injEq] at e
      refine ⟨by simpa using e.1, toInts_inj e.2⟩
    · rintro ⟨e1, e2⟩; rw [e1, e2]
  rw [this]; exact hk
theorem one_hv (ks : List UInt8) : one (hv ks) := one_list (one_bcs ks)
theorem one_pv (l : Int) (ks : List UInt8) : one (pv l ks) := one_list (by
  intro v hv
  rcases List.mem_cons.1 hv with rfl | h
  · rfl
  · exact one_bcs ks v h)
theorem hv_size {ks : List UInt8} (hk : ks.length = 32) : (hv ks).size = 32 := by simp [bcs_length, hk]
theorem pv_size {l : Int} {ks : List UInt8} (hk : ks.length = 32) : (pv l ks).size = 33 := by simp [bcs_length, hk]
theorem pl_length {l : Int} {ks : List UInt8} (hk : ks.length = 32) : (Value.int .i64 l :: bcs ks).length = 33 := by simp [bcs_length, hk]
theorem zero_cells : (List.replicate (32 : Nat) (Value.int IntKind.u8 (0 : Int))) = bcs zeros := by unfold zeros; rw [bcs_replicate]; rfl
theorem zeros_length : zeros.length = 32 := by simp [zeros]

/- ### A byte's bits, kept or set -/
theorem mask_bits : ∀ kp : Fin 9, ∀ t : Fin 8, (255 ^^^ (255 / 2 ^ kp.val)).testBit (7 - t.val) = decide (t.val < kp.val) := by decide +kernel
theorem mask_lt : ∀ kp : Fin 9, 255 ^^^ (255 / 2 ^ kp.val) < 256 := by decide +kernel
theorem keep_byte (b : UInt8) {kp : Nat} (hk : kp ≤ 8) : ∃ y : UInt8, andI .u8 (b.toNat : Int) (xorI .u8 (if IntKind.u8.signed = true then -1 else IntKind.u8.max) (shrI .u8 255 (kp : Int))) = (y.toNat : Int) ∧ ∀ t, t < 8 → y.toNat.testBit (7 - t) = (b.toNat.testBit (7 - t) && decide (t < kp)) := by
  have h1 : shrI .u8 255 (kp : Int) = ((255 / 2 ^ kp : Nat) : Int) := shrI_nat .u8 255 kp hk
  have h2 : (if IntKind.u8.signed = true then (-1 : Int) else IntKind.u8.max) = ((255 : Nat) : Int) := rfl
  have h3 : 255 / 2 ^ kp < 256 := Nat.lt_of_le_of_lt (Nat.div_le_self _ _) (by omega)
  have h4 := mask_lt ⟨kp, by omega⟩
  simp only at h4
  rw [h1, h2, xorI_u8 (by omega) h3, andI_u8 (u8_lt b) h4]
  have h5 : b.toNat &&& (255 ^^^ 255 / 2 ^ kp) < 256 := Nat.lt_of_le_of_lt Nat.and_le_left (u8_lt b)
  have e : (UInt8.ofNat (b.toNat &&& (255 ^^^ 255 / 2 ^ kp))).toNat = b.toNat &&& (255 ^^^ 255 / 2 ^ kp) := by
    generalize b.toNat &&& (255 ^^^ 255 / 2 ^ kp) = z at h5
    rw [UInt8.toNat_ofNat']; omega
  refine ⟨UInt8.ofNat (b.toNat &&& (255 ^^^ 255 / 2 ^ kp)), by rw [e], fun t ht => ?_⟩
  · rw [e, Nat.testBit_and, mask_bits ⟨kp, by omega⟩ ⟨t, ht⟩]
theorem add_bits : ∀ j : Fin 8, ∀ x : Fin 256, x.val.testBit (7 - j.val) = false → x.val + 128 / 2 ^ j.val < 256 ∧ ∀ u : Fin 8, (x.val + 128 / 2 ^ j.val).testBit (7 - u.val) = (x.val.testBit (7 - u.val) || decide (u.val = j.val)) := by decide +kernel
theorem or_bits : ∀ j : Fin 8, ∀ x : Fin 256, x.val ||| 128 / 2 ^ j.val < 256 ∧ ∀ u : Fin 8, (x.val ||| 128 / 2 ^ j.val).testBit (7 - u.val) = (x.val.testBit (7 - u.val) || decide (u.val = j.val)) := by decide +kernel
theorem getD_set (ks : List UInt8) (j : Nat) (b : UInt8) (hj : j < ks.length) (i : Nat) : (ks.set j b).getD i 0 = if i = j then b else ks.getD i 0 := by
  rw [List.getD_eq_getElem?_getD, List.getElem?_set]
  by_cases hij : j = i
  · subst hij; simp [hj]
  · rw [if_neg hij, if_neg (fun e => hij e.symm), List.getD_eq_getElem?_getD]
theorem bit_set {ks : List UInt8} {j : Nat} {b : UInt8} (hj : j < ks.length) (i : Nat) : bit (ks.set j b) i = if i / 8 = j then b.toNat.testBit (7 - i % 8) else bit ks i := by
  unfold bit
  rw [getD_set _ _ _ hj]
  split <;> rfl

theorem minmax_clamp (n : Int) : minI (maxI n 0) 256 = (clampN n : Int) := by
  unfold minI maxI clampN
  split <;> split <;> omega
theorem clamp_le (n : Int) : clampN n ≤ 256 := by unfold clampN; omega
theorem clamp_of {n : Int} (h0 : 0 ≤ n) (h1 : n ≤ 256) : clampN n = n.toNat := by unfold clampN; omega

theorem cut_ok {h : Heap} {ks : List UInt8} (hk : ks.length = 32) (n : Int) :
    CallsH Try.prog n_prefix_Cut #[.agg (hv ks), .int .i64 n] h fun v h' => (∃ ls, v = .agg (pv (clampN n) ls) ∧ IsCut ks (clampN n) ls) ∧ Ext h h' := by
  refine C_prefix_Cut (hv ks) n ?_
  unfold F_prefix_Cut
  rw [minmax_clamp]
  have hN := clamp_le n
  generalize clampN n = N at hN ⊢
  refine (St.start h).newBlk fun b0 h1 hb0 s e => s.newBlk fun b2 h3 hb2 s e2 => ?_
  refine ⟨fun n h' => ∃ k : Nat, n = k ∧ k ≤ 32 ∧ ∃ ms : List UInt8, ms.length = 32 ∧ (∀ i, i < 256 → bit ms i = (bit ks i && (decide (i < N) || decide (8 * k ≤ i)))) ∧ St h h' [pts b0 0 false (bcs ms), pts b2 0 false (.int .i64 0 :: bcs zeros)],
    fun n _ => 32 - n.toNat, ⟨0, rfl, by omega, ks, hk, fun i hi => by simp, ?_⟩, ?_⟩
  · have := s.up1
    rw [zero_cells] at this
    exact this
  intro n h7 hI
  obtain ⟨k, hn, hk32, ms, hms, hbits, s⟩ := hI
  subst hn
  rw [br_decide]
  refine ⟨fun hlt => ?_, fun hge => ?_⟩
  · have e8 : IntKind.wrap .i64 (8 * (k : Int)) = ((8 * k : Nat) : Int) := by rw [wrap_i64 (by omega) (by omega)]; omega
    have e9 : IntKind.wrap .i64 ((N : Int) - ((8 * k : Nat) : Int)) = (N : Int) - ((8 * k : Nat) : Int) := wrap_i64 (by omega) (by omega)
    have e10 : minI (maxI ((N : Int) - ((8 * k : Nat) : Int)) 0) 8 = ((min (N - 8 * k) 8 : Nat) : Int) := by unfold minI maxI; split <;> split <;> omega
    rw [e8, e9, e10]
    have ew : IntKind.wrap .i64 ((k : Int) + 1) = ((k + 1 : Nat) : Int) := by rw [wrap_i64 (by omega) (by omega)]; omega
    rw [ew, br_decide]
    refine ⟨fun h8 => ⟨by omega, by omega, ((ms[k]'(by omega)).toNat : Int), ?_, by omega, by omega, by omega, ?_⟩, fun h8 => ⟨⟨k + 1, rfl, by omega, ms, hms, fun i hi => ?_, s⟩, by show 32 - ((k + 1 : Nat) : Int).toNat < 32 - (k : Int).toNat; omega⟩⟩
    · simp only [add_mk, Int.toNat_natCast, Nat.zero_add, Nat.mul_one]; exact s.cell0 (bcs_get (by omega))
    · simp only [add_mk, Int.toNat_natCast, Nat.zero_add, Nat.mul_one]
      obtain ⟨y, hy, hyb⟩ := keep_byte (ms[k]'(by omega)) (kp := min (N - 8 * k) 8) (by omega)
      rw [hy]
      refine s.store0 (by rw [bcs_length]; omega) rfl fun h9 s => ?_
      rw [bcs_set] at s
      refine ⟨⟨k + 1, rfl, by omega, ms.set k y, by simpa using hms, fun i hi => ?_, s⟩, by show 32 - ((k + 1 : Nat) : Int).toNat < 32 - (k : Int).toNat; omega⟩
      rw [bit_set (by omega)]
      by_cases hik : i / 8 = k
      · rw [if_pos hik, hyb _ (by omega)]
        have hb : (ms[k]'(by omega)).toNat.testBit (7 - i % 8) = bit ks i := by
          have := hbits i hi
          rw [show decide (8 * k ≤ i) = true by simp; omega, Bool.or_true, Bool.and_true] at this
          rw [← this, bit_get hms hi]
          congr 2
          subst hik; rfl
        rw [hb, show decide (8 * (k + 1) ≤ i) = false by simp; omega, Bool.or_false]
        congr 1
        simp only [decide_eq_decide]; omega
      · rw [if_neg hik, hbits i hi]
        congr 2
        simp only [decide_eq_decide]; omega
    · rw [hbits i hi]
      by_cases hiN : i < N
      · simp [hiN]
      · congr 2
        simp only [decide_eq_decide]; omega
  · have : k = 32 := by omega
    subst this
    refine ⟨hv ms, s.row0 (by rw [bcs_length, hms]), hv_size hms, ?_⟩
    refine s.up1.ret (by rw [pl_length zeros_length]) (by simp [bcs_length, hms]) (one_list (by
      intro v hv
      simp only [List.append_nil, List.mem_cons] at hv
      rcases hv with rfl | h
      · rfl
      · exact one_bcs ms v (by simpa using h))) fun h' e => ⟨⟨ms, by simp, hms, fun i hi => ?_⟩, e⟩
    rw [hbits i hi, show decide (8 * 32 ≤ i) = false by simp; omega, Bool.or_false]

/-- A key with a bit made 1. -/
def IsSet (ks : List UInt8) (i : Nat) (ls : List UInt8) : Prop := ls.length = 32 ∧ ∀ j, j < 256 → bit ls j = (bit ks j || decide (j = i))
theorem set_ok {h : Heap} {ks : List UInt8} (hk : ks.length = 32) {i : Nat} (hi : i < 256) :
    CallsH Try.prog n_ref03_Set #[.agg (hv ks), .int .i64 i] h fun v h' => (∃ ls, v = .agg (hv ls) ∧ IsSet ks i ls) ∧ Ext h h' := by
  refine C_ref03_Set (hv ks) i ?_
  unfold F_ref03_Set
  refine (St.start h).newBlk fun b0 h1 hb0 s e => s.newBlk fun b2 h3 hb2 s e2 => ?_
  rw [zero_cells] at s
  refine ⟨hv ks, s.up1.row0 (by simp [bcs_length, hk]), (rbit_ok hk i).mono fun v h6 ⟨hv1, e6⟩ => ⟨e6, _, hv1, ?_⟩⟩
  have s := s.keep e6
  rw [br_beq, bitI_nat _ hi]
  refine ⟨fun h0 => ?_, fun h1 => ?_⟩
  · have hb : bit ks i = false := by cases hb : bit ks i <;> simp [hb] at h0 ⊢
    refine ⟨fun t h' => h' = h6 ∧ ∃ c : Nat, t.2 = c ∧ c ≤ i % 8 ∧ t.1 = ((128 / 2 ^ c : Nat) : Int), fun t _ => 8 - t.2.toNat, ⟨rfl, 0, rfl, by omega, rfl⟩, ?_⟩
    rintro ⟨x, c⟩ h11 ⟨rfl, c, hc, hci, hx⟩
    simp only at hc hx ⊢
    subst hc; subst hx
    have em : Int.tmod (i : Int) 8 = ((i % 8 : Nat) : Int) := rfl
    have ed : Int.tdiv (i : Int) 8 = ((i / 8 : Nat) : Int) := rfl
    have e128 : 128 / 2 ^ c ≤ 128 := Nat.div_le_self _ _
    have ew : IntKind.wrap .i64 ((c : Int) + 1) = ((c + 1 : Nat) : Int) := by rw [wrap_i64 (by omega) (by omega)]; omega
    refine ⟨by omega, ?_⟩
    rw [em, ed, ew, br_decide]
    refine ⟨fun hlt => ⟨by omega, ⟨by trivial, c + 1, rfl, by omega, ?_⟩, by show 8 - ((c + 1 : Nat) : Int).toNat < 8 - (c : Int).toNat; omega⟩, fun hge => ?_⟩
    · have e2 : Int.tdiv ((128 / 2 ^ c : Nat) : Int) 2 = ((128 / 2 ^ c / 2 : Nat) : Int) := rfl
      have e3 : 128 / 2 ^ c / 2 ≤ 128 := Nat.le_trans (Nat.div_le_self _ _) e128
      rw [e2, wrap_i64 (Int.le_trans (by omega) (Int.natCast_nonneg _)) (Int.le_trans (Int.ofNat_le.2 e3) (by omega)), Nat.pow_succ, Nat.div_div_eq_div_mul]
    · have : c = i % 8 := by omega
      subst this
      rw [wrap_i64 (n := ((i / 8 : Nat) : Int)) (by omega) (by omega)]
      have hbit := hb
      rw [bit_get hk hi] at hbit
      obtain ⟨hlt, hbs⟩ := add_bits ⟨i % 8, by omega⟩ ⟨(ks[i / 8]'(by omega)).toNat, u8_lt _⟩ hbit
      simp only at hlt hbs
      refine ⟨by omega, by omega, by omega, ((ks[i / 8]'(by omega)).toNat : Int), ?_, by omega, by omega, ?_⟩
      · simp only [add_mk, Int.toNat_natCast, Nat.zero_add, Nat.mul_one]; exact s.up1.cell0 (bcs_get (by omega))
      · simp only [add_mk, Int.toNat_natCast, Nat.zero_add, Nat.mul_one]
        have e128' : 128 / 2 ^ (i % 8) < 256 := by omega
        rw [wrap_u8_nat e128', ← Int.natCast_add, wrap_u8_nat hlt, byte_of hlt]
        refine s.up1.store0 (by simp [bcs_length]; omega) rfl fun h13 s => ?_
        have s : St h h13 (pts b0 0 false (bcs (ks.set (i / 8) (UInt8.ofNat ((ks[i / 8]'(by omega)).toNat + 128 / 2 ^ (i % 8))))) :: [pts b2 0 false (bcs zeros)]) := by
          rw [← bcs_set]; exact s
        refine ⟨_, s.row0 (by simp [bcs_length, hk]), ?_⟩
        refine s.up1.ret (by rw [bcs_length, zeros_length]) (by simp [bcs_length, hk]) (one_list (one_bcs _)) fun h' e => ⟨⟨_, rfl, by simpa using hk, fun j hj => ?_⟩, e⟩
        rw [bit_set (by omega)]
        by_cases hij : j / 8 = i / 8
        · rw [if_pos hij]
          have e1 : (UInt8.ofNat ((ks[i / 8]'(by omega)).toNat + 128 / 2 ^ (i % 8))).toNat = (ks[i / 8]'(by omega)).toNat + 128 / 2 ^ (i % 8) := by simp; omega
          rw [e1, hbs ⟨j % 8, by omega⟩, bit_get hk hj]
          congr 1
          · congr 2; simp [hij]
          · simp only [decide_eq_decide]; omega
        · rw [if_neg hij, show decide (j = i) = false by simp; intro e; exact hij (by rw [e]), Bool.or_false]
  · have hb : bit ks i = true := by cases hb : bit ks i <;> simp [hb] at h1 ⊢
    refine ⟨hv ks, s.up1.row0 (by simp [bcs_length, hk]), ?_⟩
    refine s.ret (by rw [bcs_length, zeros_length]) (hv_size hk) (one_hv ks) fun h' e => ⟨⟨ks, rfl, hk, fun j hj => ?_⟩, e⟩
    by_cases hji : j = i
    · subst hji; simp [hb]
    · simp [hji]

end Go.Proofs.Ytnaeicepapokjaa
